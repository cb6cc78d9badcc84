/- The flow walks: the reference's rest, back, Carry -/
import Derived.Test.YtmhiiomejopaoaaV3
import Derived.Test.YtmhiiomejopaoaaA4
namespace Go.Proofs.Ytmhiiomejopaoaa
set_option linter.all false
open Go.RowKit
set_option maxRecDepth 100000

def restB (l : List Lk) (u : List Int) : Nat → List Lk
  | 0 => []
  | k + 1 => if 0 < gi u k then restB l u k ++ [⟨(gl l k).b, (gl l k).a, wrap64 (-(gl l k).m)⟩] else restB l u k
theorem restB_succ (l : List Lk) (u : List Int) (k : Nat) : restB l u (k + 1) = if 0 < gi u k then restB l u k ++ [⟨(gl l k).b, (gl l k).a, wrap64 (-(gl l k).m)⟩] else restB l u k := rfl
theorem restB_backs {l : List Lk} {u : List Int} (hu : u.length = l.length) : restB l u l.length = backs l u := by
  have key : ∀ k, k ≤ l.length → restB l u k = ((l.zip u).take k).filterMap fun p => if 0 < p.2 then some (⟨p.1.b, p.1.a, wrap64 (-p.1.m)⟩ : Lk) else none := by
    intro k
    induction k with
    | zero => intro _; rfl
    | succ k ih =>
      intro hk
      rw [zipl_take l u k (by omega) (by omega), List.filterMap_append, ← ih (by omega)]
      rw [restB_succ]
      by_cases h0 : 0 < gi u k
      · simp [h0]
      · simp [h0]
  rw [key l.length (Nat.le_refl _), List.take_of_length_le (by simp; omega)]
  rfl
theorem restB_len (l : List Lk) (u : List Int) : ∀ k, (restB l u k).length ≤ k
  | 0 => Nat.le_refl _
  | k + 1 => by
    have := restB_len l u k
    unfold restB
    split
    · simp; omega
    · omega
theorem own_mono {w : World} {b b' n size : Nat} {e : TypeId} {v : Value} {xs : List Value} (hb : b' ≤ b) (h : w.ownsRow b e size v n xs) : w.ownsRow b' e size v n xs := by
  refine ⟨h.1, ?_⟩
  rcases h.2 with h1 | ⟨g, cap, cur, e1, h2, h3⟩
  · exact .inl h1
  · exact .inr ⟨g, cap, cur, e1, Nat.le_trans hb h2, h3⟩
def NeV (p q : Value) : Prop := p.ownBlock = none ∨ q.ownBlock = none ∨ p.ownBlock ≠ q.ownBlock
/-- The boxes and the two lists of rest. -/
structure RS (w wr : World) (n : Int) (A : Option Addr) (m c b bs : Nat) (v : Value) (q : List Lk) (z : Value) (r : List Int) : Prop where
  b0 : wr.heap[w.heap.size]? = some (.cells #[.int .i64 n, .slice A m c] 24)
  b1 : wr.heap[w.heap.size + 1]? = some (.cells #[.int .i64 0, .slice none 0 0] 24)
  b2 : wr.heap[b]? = some (.cells #[.int .i64 n, v] 24)
  row : wr.ownsRow bs 39 3 v q.length (lkcs q)
  oz : wr.ownsRow (b + 1) 3 1 z r.length (ints r)
  vb : v.ownBlock ≠ some b
  vz : NeV v z
  below : Below w.heap.size w wr
  hb : w.heap.size + 2 ≤ b ∧ b < wr.heap.size ∧ w.heap.size + 2 ≤ bs ∧ bs ≤ b
theorem RS.idx {w wr w' : World} {n : Int} {A : Option Addr} {m c b bs : Nat} {v z z' : Value} {q : List Lk} {r : List Int} {k : Int} (h : RS w wr n A m c b bs v q z r) (ho : w'.ownsRow (b + 1) 3 1 z' (r.length + 1) (ints r ++ [.int .i64 k])) (hg : wr.grownBy w' z.ownBlock) (hat : z'.ownBlock = z.ownBlock ∨ ∃ b, z'.ownBlock = some b ∧ wr.heap.size ≤ b) : RS w w' n A m c b bs v q z' (r ++ [k]) := by
  obtain ⟨h1, h2, h3, h4⟩ := h.hb
  have hz : ∀ k, z.ownBlock = some k → b + 1 ≤ k := fun k e => (h.oz.lt k e).1
  refine ⟨grown_heap hg h.b0 (by omega) (fun e => by have := hz _ e; omega), grown_heap hg h.b1 (by omega) (fun e => by have := hz _ e; omega), grown_heap hg h.b2 h2 (fun e => by have := hz _ e; omega), ?_, by rw [List.length_append]; simpa [ints] using ho, h.vb, ?_, h.below.grown hg (by omega) (fun k e => by have := hz k e; omega), ⟨h1, Nat.lt_of_lt_of_le h2 hg.size, h3, h4⟩⟩
  · refine h.row.kept hg ?_
    rcases h.vz with e | e | e
    · exact .inl e
    · rw [e]; cases v.ownBlock <;> simp
    · exact .inr e
  · rcases hat with e | ⟨b', e, hb⟩
    · unfold NeV; rw [e]; exact h.vz
    · cases hv : v.ownBlock with
      | none => exact .inl hv
      | some k =>
        right; right
        have := (h.row.lt k hv).2
        rw [hv, e]
        intro e2
        have := Option.some.inj e2
        omega
theorem RS.put {w wr w1 : World} {n : Int} {A : Option Addr} {m c b bs g cap : Nat} {v z : Value} {q : List Lk} {r : List Int} {x : Lk} (h : RS w wr n A m c b bs v q z r) (hg : wr.grownBy w1 v.ownBlock) (ho : w1.ownsRow bs 39 3 (.slice (some ⟨g, 0, none⟩) (q.length + 1) cap) (q.length + 1) (lkcs q ++ lkc x)) (hat : v.ownBlock = some g ∨ wr.heap.size ≤ g) (hb2 : w1.heap[b]? = some (.cells #[.int .i64 n, v] 24)) :
    RS w (w1.setCell ⟨b, 1, none⟩ (.slice (some ⟨g, 0, none⟩) (q.length + 1) cap)) n A m c b bs (.slice (some ⟨g, 0, none⟩) (q.length + 1) cap) (q ++ [x]) z r := by
  obtain ⟨h1, h2, h3, h4⟩ := h.hb
  have hv : ∀ k, v.ownBlock = some k → bs ≤ k := fun k e => (h.row.lt k e).1
  have hgb : g ≠ b := by
    rcases hat with e | e
    · intro e2; rw [e2] at e; exact h.vb e
    · omega
  have hsz := hg.size
  refine ⟨?_, ?_, ?_, ?_, ?_, ?_, ?_, ?_, ⟨h1, by simp [World.setCell]; omega, h3, h4⟩⟩
  · rw [Below.heap_setCell _ _ _ _ (by show _ ≠ b; omega)]
    exact grown_heap hg h.b0 (by omega) (fun e => by have := hv _ e; omega)
  · rw [Below.heap_setCell _ _ _ _ (by show _ ≠ b; omega)]
    exact grown_heap hg h.b1 (by omega) (fun e => by have := hv _ e; omega)
  · simp [World.setCell, Array.getElem?_modify, hb2]
  · have e : (w1.setCell ⟨b, 1, none⟩ (.slice (some ⟨g, 0, none⟩) (q.length + 1) cap)).ownsRow bs 39 3 (.slice (some ⟨g, 0, none⟩) (q.length + 1) cap) (q.length + 1) (lkcs q ++ lkc x) := by
      refine ho.kept (row := some b) (grown_set (grown_refl w1 _) _ _ (.inl rfl)) (.inr ?_)
      simp [Value.ownBlock]; omega
    rw [List.length_append]
    simpa [lkcs] using e
  · have e1 : w1.ownsRow (b + 1) 3 1 z r.length (ints r) := by
      refine h.oz.kept hg ?_
      rcases h.vz with e | e | e
      · rw [e]; cases z.ownBlock <;> simp
      · exact .inl e
      · exact .inr (fun e2 => e e2.symm)
    refine e1.kept (row := some b) (grown_set (grown_refl w1 _) _ _ (.inl rfl)) (.inr ?_)
    intro e2
    have := (h.oz.lt _ e2).1
    omega
  · simp [Value.ownBlock]; omega
  · rcases hat with e | e
    · unfold NeV
      have e2 : (Value.slice (some ⟨g, 0, none⟩) (q.length + 1) cap).ownBlock = v.ownBlock := by rw [e]; rfl
      rw [e2]; exact h.vz
    · cases hz : z.ownBlock with
      | none => exact .inr (.inl hz)
      | some k =>
        right; right
        have := (h.oz.lt k hz).2
        rw [hz]
        intro e2
        have h9 : g = k := Option.some.inj e2
        omega
  · exact Below.setCell (h.below.grown hg (by omega) (fun k e => by have := hv k e; omega)) (by show w.heap.size ≤ b; omega) _
set_option maxRecDepth 100000 in
set_option maxHeartbeats 40000000 in
theorem rest_any (n : Int) (A : Option Addr) (c : Nat) (l : List Lk) (B : Option Addr) (d : Nat) (u : List Int) (w : World) (hl : l.length ≤ 1000) (hu : u.length = l.length) (hn : A = none → l.length = 0 ∧ c = 0) (h : LksAt w A l) (h' : IntsAt w B u) :
    Calls Try.prog 74 #[.agg #[.int .i64 n, .slice A l.length c], .slice B u.length d] w fun e w' => ∃ v z, e = .returned (.tuple #[.agg #[.int .i64 n, v], z]) ∧ LksV w' v (rigidL l u) ∧ w'.ownsRow w.heap.size 3 1 z (restOf l u).length (ints (restOf l u)) ∧ Below w.heap.size w w' := by
  have HA := Lib.hid h
  have HU := Lib.hid h'
  have HN := Lib.hid hn
  have HUL := Lib.hid hu
  have HX := Lib.hid (BW.start w n A l.length c)
  clear h h' hn hu
  go_enter Try.func74, Try.ntmps74
  go_upto_region 4 with (go_at_call 55; refine (rwith_own n A c l none 0 [] _ (by simp; omega) HN.out (fun _ => ⟨rfl, rfl⟩) (HA.out.below HX.out.below) (fun i h0 hi => by simp at hi; omega)).mono ?_; rintro e w1 ⟨v1, rfl, bs, hbs, hbs2, ho, hb⟩; rw [List.append_nil] at ho; obtain ⟨A1, c1, rfl, hv1, hvn1, hvb1⟩ := own_lksV ho; have HB1 := Lib.hid hb; have HO1 := Lib.hid ho; have HBS := Lib.hid (And.intro hbs hbs2); clear hb ho hbs hbs2 hv1 hvn1 hvb1)
  have HX1 := Lib.hid (HX.out.grow (r := none) ⟨HB1.out.os, HB1.out.tape, HB1.out.output, HB1.out.size, fun k hk _ => HB1.out.block k hk⟩ (fun k e => by cases e))
  have HBW := Lib.hid (below_trans HX.out.below HB1.out)
  have HRS := Lib.hid (show RS w (w1.alloc (.cells #[.int .i64 n, .slice A1 l.length c1] 24)) n A l.length c w1.heap.size bs (.slice A1 l.length c1) l (.slice none 0 0) [] from by
    have h1 := HX1.out.hB
    have h2 := HBS.out.1
    have h3 := HBS.out.2
    simp only [World.size_alloc] at h2
    refine ⟨?_, ?_, heap_alloc_new _ _, HO1.out.alloc _, World.ownsRow_nil _ _ _ _, ?_, .inr (.inl rfl), HBW.out.alloc (by omega) _, ?_⟩
    · rw [Below.heap_alloc _ _ _ (by omega)]; exact HX1.out.b0
    · rw [Below.heap_alloc _ _ _ (by omega)]; exact HX1.out.b1
    · intro e
      have := (HO1.out.lt _ e).2
      omega
    · simp only [World.size_alloc]; omega)
  go_loopw [7, 8] (fun z i wr => ∃ k : Nat, k ≤ l.length ∧ i = .int .i64 k ∧ Hid (RS w wr n A l.length c w1.heap.size bs (.slice A1 l.length c1) l z (ndN (fun _ => true) k))) (fun _ i _ => l.length - (intOf i).toNat)
  case atStart => exact ⟨0, by omega, rfl, HRS⟩
  case round =>
    obtain ⟨k, hk, rfl, HR⟩ := hrel
    have q0 := cell_of_heap HR.out.b0 0
    have q1 := cell_of_heap HR.out.b0 1
    simp at q0 q1
    have lq := World.block_lt_of_cell? _ _ q0
    by_cases hlt : k < l.length
    · have hkl := (ndN_all k).1
      go_wp2_with (at_builtin; refine app_one rfl _ _ 25 3 (.int .i64 0) 1 8 rfl Try.underlying25 info3 rfl (by omega) u7 _ _ [.int .i64 k] rfl rfl rfl rfl (one1 _ _) (w1.heap.size + 1) HR.out.oz (by have := HR.out.hb; omega) (by omega) (by unfold maxLen; omega) ?_; intro v3 w4 ho hg hat; have HR4 := Lib.hid (HR.out.idx (k := (k : Int)) ho hg hat); clear ho hg hat)
      go_roundw
      case rel => exact ⟨k + 1, by omega, by go_num, Lib.hid (by rw [ndN_succ, if_pos rfl]; exact HR4.out)⟩
      case measure => simp [intOf]; omega
    · obtain rfl : k = l.length := by omega
      have HR2 := HR
      clear HRS
      go_upto_region 8 with fail
      clear hlt q0 q1 lq
      go_loopw [7, 9] (fun z i wr => ∃ (k : Nat) (v : Value), k ≤ l.length ∧ i = .int .i64 k ∧ Hid (RS w wr n A l.length c w1.heap.size bs v (l ++ restB l u k) z (ndN (fun _ => true) l.length ++ ndN (fun k => decide (0 < gi u k)) k))) (fun _ i _ => l.length - (intOf i).toNat)
      case atStart => exact ⟨0, _, by omega, rfl, Lib.hid (by simpa [restB, ndN] using HR2.out)⟩
      case round =>
        obtain ⟨k, v, hk, rfl, HR⟩ := hrel
        have q0 := cell_of_heap HR.out.b0 0
        have q1 := cell_of_heap HR.out.b0 1
        simp at q0 q1
        have lq := World.block_lt_of_cell? _ _ q0
        by_cases hlt : k < l.length
        · have hltu : k < u.length := by have := HUL.out; omega
          obtain ⟨bu, ou, rfl, gu⟩ := (HU.out.below HR.out.below).nat k hltu
          have lu := World.block_lt_of_cell? _ _ gu
          by_cases h0 : 0 < gi u k
          · have HE := Lib.hid (show restB l u (k + 1) = restB l u k ++ [⟨(gl l k).b, (gl l k).a, wrap64 (-(gl l k).m)⟩] ∧ ndN (fun k => decide (0 < gi u k)) (k + 1) = ndN (fun k => decide (0 < gi u k)) k ++ [(k : Int)] from ⟨by rw [restB_succ, if_pos h0], by rw [ndN_succ, if_pos (by simpa using h0)]⟩)
            have HQL := Lib.hid (show (l ++ restB l u k).length ≤ 2000 ∧ (ndN (fun _ => true) l.length ++ ndN (fun k => decide (0 < gi u k)) k).length ≤ 2000 by
              have h1 := restB_len l u k
              have h2 := (ndN_all l.length).1
              have h3 := ndN_len (fun k => decide (0 < gi u k)) k
              rw [List.length_append, List.length_append]
              omega)
            go_upto_region 11 with fail
            obtain ⟨ba, oa, rfl, g1, g2, g3⟩ := (HA.out.below HR.out.below).nat k hlt
            have la := World.block_lt_of_cell? _ _ g1
            have d1 := cell_of_heap HR.out.b2 1
            simp at d1
            have ld := World.block_lt_of_cell? _ _ d1
            obtain ⟨ka, hka⟩ : ∃ ka, (gl l k).a = ka := ⟨_, rfl⟩
            obtain ⟨kb, hkb⟩ : ∃ kb, (gl l k).b = kb := ⟨_, rfl⟩
            obtain ⟨km, hkm⟩ : ∃ km, (gl l k).m = km := ⟨_, rfl⟩
            rw [hka, hkb, hkm] at HE
            rw [hka] at g1
            rw [hkb] at g2
            rw [hkm] at g3
            clear hka hkb hkm
            obtain ⟨q, hq⟩ : ∃ q, l ++ restB l u k = q := ⟨_, rfl⟩
            rw [hq] at HR HQL
            have HQE := Lib.hid hq
            clear hq
            obtain ⟨i0, hi0, hzz⟩ := Option.map_eq_some_iff.1 info39
            simp only [Prod.mk.injEq] at hzz
            have HI := Lib.hid hi0
            have Hz0 := Lib.hid hzz.1
            have Hz1 := Lib.hid hzz.2.1
            have Hz2 := Lib.hid hzz.2.2
            clear hi0 hzz
            have hqx : q.length ≤ 2000 := HQL.out.1
            have HVB := Lib.hid HR.out.vb
            have HNE := Lib.hid (show ∀ k : Nat, k < bs → v.ownBlock ≠ some k from fun k hk e => by have := (HR.out.row.lt k e).1; omega)
            have hbaw : ba < w.heap.size := by
              obtain ⟨b9, o9, e9, k9, _⟩ := HA.out.nat k hlt
              cases e9
              exact World.block_lt_of_cell? _ _ k9
            have HBA := Lib.hid hbaw
            have HS := Lib.hid (show (wr.drew.cell? ⟨w.heap.size, 0, none⟩ = some (.int .i64 n) ∧ wr.drew.cell? ⟨w.heap.size, 1, none⟩ = some (.slice (some ⟨ba, oa, none⟩) l.length c) ∧ wr.drew.cell? ⟨ba, oa + k * 3, none⟩ = some (.int .i64 ka) ∧ wr.drew.cell? ⟨ba, oa + k * 3 + 1, none⟩ = some (.int .i64 kb) ∧ wr.drew.cell? ⟨ba, oa + k * 3 + 2, none⟩ = some (.int .i64 km)) from ⟨q0, q1, g1, g2, g3⟩)
            refine wp_region_held_drew (S := fun w' => w'.cell? ⟨w.heap.size, 0, none⟩ = some (.int .i64 n) ∧ w'.cell? ⟨w.heap.size, 1, none⟩ = some (.slice (some ⟨ba, oa, none⟩) l.length c) ∧ w'.cell? ⟨ba, oa + k * 3, none⟩ = some (.int .i64 ka) ∧ w'.cell? ⟨ba, oa + k * 3 + 1, none⟩ = some (.int .i64 kb) ∧ w'.cell? ⟨ba, oa + k * 3 + 2, none⟩ = some (.int .i64 km)) (by kernel_rfl) HS.out (fun hHeld => ?_)
            refine wpAnyH_take (i := 0) (v := ?_) rfl (by kernel_rfl) (by kernel_rfl) (by kernel_rfl) (fun _ _ _ h => h) (Or.inl ⟨by rfl, ?hyy⟩) (by assumption) ?_
            case hyy => (intro w hSw; (try dsimp only at hSw); go_simp; all_goals (with_reducible rfl))
            simp only [List.getElem_toArray, List.getElem_cons_zero, List.getElem_cons_succ, Act.put, List.setIfInBounds_toArray, List.set_cons_zero, List.set_cons_succ]
            refine wpAnyH_take (i := 2) (v := ?_) rfl (by kernel_rfl) (by kernel_rfl) (by kernel_rfl) (fun _ _ _ h => h) (Or.inl ⟨by rfl, ?hyy⟩) (by assumption) ?_
            case hyy => (intro w hSw; (try dsimp only at hSw); go_simp; all_goals (with_reducible rfl))
            simp only [List.getElem_toArray, List.getElem_cons_zero, List.getElem_cons_succ, Act.put, List.setIfInBounds_toArray, List.set_cons_zero, List.set_cons_succ]
            refine wpAnyH_take (i := 3) (v := ?_) rfl (by kernel_rfl) (by kernel_rfl) (by kernel_rfl) (fun _ _ _ h => h) (Or.inl ⟨by rfl, ?hyy⟩) (by assumption) ?_
            case hyy => (intro w hSw; (try dsimp only at hSw); go_simp; all_goals (with_reducible rfl))
            simp only [List.getElem_toArray, List.getElem_cons_zero, List.getElem_cons_succ, Act.put, List.setIfInBounds_toArray, List.set_cons_zero, List.set_cons_succ]
            refine wpAnyH_take (i := 4) (v := ?_) rfl (by kernel_rfl) (by kernel_rfl) (by kernel_rfl) (fun _ _ _ h => h) (Or.inl ⟨by rfl, ?hyy⟩) (by assumption) ?_
            case hyy => (intro w hSw; (try dsimp only at hSw); go_simp; all_goals (with_reducible rfl))
            simp only [List.getElem_toArray, List.getElem_cons_zero, List.getElem_cons_succ, Act.put, List.setIfInBounds_toArray, List.set_cons_zero, List.set_cons_succ]
            refine wpAnyH_take (i := 5) (v := ?_) rfl (by kernel_rfl) (by kernel_rfl) (by kernel_rfl) (fun _ _ _ h => h) (Or.inl ⟨by rfl, ?hyy⟩) (by assumption) ?_
            case hyy => (intro w hSw; (try dsimp only at hSw); go_simp; all_goals (with_reducible rfl))
            simp only [List.getElem_toArray, List.getElem_cons_zero, List.getElem_cons_succ, Act.put, List.setIfInBounds_toArray, List.set_cons_zero, List.set_cons_succ]
            refine wpAnyH_take (i := 6) (v := ?_) rfl (by kernel_rfl) (by kernel_rfl) (by kernel_rfl) (fun _ _ _ h => h) (Or.inl ⟨by rfl, ?hyy⟩) (by assumption) ?_
            case hyy => (intro w hSw; (try dsimp only at hSw); go_simp; all_goals (with_reducible rfl))
            simp only [List.getElem_toArray, List.getElem_cons_zero, List.getElem_cons_succ, Act.put, List.setIfInBounds_toArray, List.set_cons_zero, List.set_cons_succ]
            refine wpAnyH_take (i := 7) (v := ?_) rfl (by kernel_rfl) (by kernel_rfl) (by kernel_rfl) (fun _ _ _ h => h) (Or.inl ⟨by rfl, ?hyy⟩) (by assumption) ?_
            case hyy => (intro w hSw; (try dsimp only at hSw); go_simp; all_goals (with_reducible rfl))
            simp only [List.getElem_toArray, List.getElem_cons_zero, List.getElem_cons_succ, Act.put, List.setIfInBounds_toArray, List.set_cons_zero, List.set_cons_succ]
            refine wpAnyH_take (i := 8) (v := ?_) rfl (by kernel_rfl) (by kernel_rfl) (by kernel_rfl) (fun _ _ _ h => h) (Or.inl ⟨by rfl, ?hyy⟩) (by assumption) ?_
            case hyy => (intro w hSw; (try dsimp only at hSw); go_simp; all_goals (with_reducible rfl))
            simp only [List.getElem_toArray, List.getElem_cons_zero, List.getElem_cons_succ, Act.put, List.setIfInBounds_toArray, List.set_cons_zero, List.set_cons_succ]
            refine wpAnyH_take (i := 9) (v := ?_) rfl (by kernel_rfl) (by kernel_rfl) (by kernel_rfl) (fun _ _ _ h => h) (Or.inl ⟨by rfl, ?hyy⟩) (by assumption) ?_
            case hyy => (intro w hSw; (try dsimp only at hSw); go_simp; all_goals (with_reducible rfl))
            simp only [List.getElem_toArray, List.getElem_cons_zero, List.getElem_cons_succ, Act.put, List.setIfInBounds_toArray, List.set_cons_zero, List.set_cons_succ]
            refine wpAnyH_take (i := 10) (v := ?_) rfl (by kernel_rfl) (by kernel_rfl) (by kernel_rfl) (fun _ _ _ h => h) (Or.inl ⟨by rfl, ?hyy⟩) (by assumption) ?_
            case hyy => (intro w hSw; (try dsimp only at hSw); go_simp; all_goals (with_reducible rfl))
            simp only [List.getElem_toArray, List.getElem_cons_zero, List.getElem_cons_succ, Act.put, List.setIfInBounds_toArray, List.set_cons_zero, List.set_cons_succ]
            refine wpAnyH_take (i := 11) (v := ?_) rfl (by kernel_rfl) (by kernel_rfl) (by kernel_rfl) (fun _ _ _ h => h) (Or.inl ⟨by rfl, ?hyy⟩) (by assumption) ?_
            case hyy => (intro w hSw; (try dsimp only at hSw); go_simp; all_goals (with_reducible rfl))
            simp only [List.getElem_toArray, List.getElem_cons_zero, List.getElem_cons_succ, Act.put, List.setIfInBounds_toArray, List.set_cons_zero, List.set_cons_succ]
            refine wpAnyH_take (i := 12) (v := ?_) rfl (by kernel_rfl) (by kernel_rfl) (by kernel_rfl) (fun _ _ _ h => h) (Or.inl ⟨by rfl, ?hyy⟩) (by assumption) ?_
            case hyy => (intro w hSw; (try dsimp only at hSw); go_simp; all_goals (with_reducible rfl))
            simp only [List.getElem_toArray, List.getElem_cons_zero, List.getElem_cons_succ, Act.put, List.setIfInBounds_toArray, List.set_cons_zero, List.set_cons_succ]
            refine wpAnyH_take (i := 13) (v := ?_) rfl (by kernel_rfl) (by kernel_rfl) (by kernel_rfl) (fun _ _ _ h => h) (Or.inl ⟨by rfl, ?hyy⟩) (by assumption) ?_
            case hyy => (intro w hSw; (try dsimp only at hSw); go_simp; all_goals (with_reducible rfl))
            simp only [List.getElem_toArray, List.getElem_cons_zero, List.getElem_cons_succ, Act.put, List.setIfInBounds_toArray, List.set_cons_zero, List.set_cons_succ]
            refine wpAnyH_take (i := 14) (v := ?_) rfl (by kernel_rfl) (by kernel_rfl) (by kernel_rfl) (fun _ _ _ h => h) (Or.inl ⟨by rfl, ?hyy⟩) (by assumption) ?_
            case hyy => (intro w hSw; (try dsimp only at hSw); go_simp; all_goals (with_reducible rfl))
            simp only [List.getElem_toArray, List.getElem_cons_zero, List.getElem_cons_succ, Act.put, List.setIfInBounds_toArray, List.set_cons_zero, List.set_cons_succ]
            refine wpAnyH_take (i := 15) (v := ?_) rfl (by kernel_rfl) (by kernel_rfl) (by kernel_rfl) (fun _ _ _ h => h) (Or.inl ⟨by rfl, ?hyy⟩) (by assumption) ?_
            case hyy => (intro w hSw; (try dsimp only at hSw); go_simp; all_goals (with_reducible rfl))
            simp only [List.getElem_toArray, List.getElem_cons_zero, List.getElem_cons_succ, Act.put, List.setIfInBounds_toArray, List.set_cons_zero, List.set_cons_succ]
            refine wpAnyH_take (i := 16) (v := ?_) rfl (by kernel_rfl) (by kernel_rfl) (by kernel_rfl) (fun _ _ _ h => h) (Or.inl ⟨by rfl, ?hyy⟩) (by assumption) ?_
            case hyy => (intro w hSw; (try dsimp only at hSw); go_simp; all_goals (with_reducible rfl))
            simp only [List.getElem_toArray, List.getElem_cons_zero, List.getElem_cons_succ, Act.put, List.setIfInBounds_toArray, List.set_cons_zero, List.set_cons_succ]
            refine wpAnyH_take (i := 17) (v := ?_) rfl (by kernel_rfl) (by kernel_rfl) (by kernel_rfl) (fun _ _ _ h => h) (Or.inl ⟨by rfl, ?hyy⟩) (by assumption) ?_
            case hyy => (intro w hSw; (try dsimp only at hSw); go_simp; all_goals (with_reducible rfl))
            simp only [List.getElem_toArray, List.getElem_cons_zero, List.getElem_cons_succ, Act.put, List.setIfInBounds_toArray, List.set_cons_zero, List.set_cons_succ]
            refine wpAnyH_take (i := 18) (v := ?_) rfl (by kernel_rfl) (by kernel_rfl) (by kernel_rfl) (fun _ _ _ h => h) (Or.inl ⟨by rfl, ?hyy⟩) (by assumption) ?_
            case hyy => (intro w hSw; (try dsimp only at hSw); go_simp; all_goals (with_reducible rfl))
            simp only [List.getElem_toArray, List.getElem_cons_zero, List.getElem_cons_succ, Act.put, List.setIfInBounds_toArray, List.set_cons_zero, List.set_cons_succ]
            refine wpAnyH_take (i := 19) (v := ?_) rfl (by kernel_rfl) (by kernel_rfl) (by kernel_rfl) (fun _ _ _ h => h) (Or.inl ⟨by rfl, ?hyy⟩) (by assumption) ?_
            case hyy => (intro w hSw; (try dsimp only at hSw); go_simp; all_goals (with_reducible rfl))
            simp only [List.getElem_toArray, List.getElem_cons_zero, List.getElem_cons_succ, Act.put, List.setIfInBounds_toArray, List.set_cons_zero, List.set_cons_succ]
            refine wpAnyH_take (i := 20) (v := ?_) rfl (by kernel_rfl) (by kernel_rfl) (by kernel_rfl) (fun _ _ _ h => h) (Or.inl ⟨by rfl, ?hyy⟩) (by assumption) ?_
            case hyy => (intro w hSw; (try dsimp only at hSw); go_simp; all_goals (with_reducible rfl))
            simp only [List.getElem_toArray, List.getElem_cons_zero, List.getElem_cons_succ, Act.put, List.setIfInBounds_toArray, List.set_cons_zero, List.set_cons_succ]
            refine wpAnyH_take (i := 21) (v := ?_) rfl (by kernel_rfl) (by kernel_rfl) (by kernel_rfl) (fun _ _ _ h => h) (Or.inl ⟨by rfl, ?hyy⟩) (by assumption) ?_
            case hyy => (intro w hSw; (try dsimp only at hSw); go_simp; all_goals (with_reducible rfl))
            simp only [List.getElem_toArray, List.getElem_cons_zero, List.getElem_cons_succ, Act.put, List.setIfInBounds_toArray, List.set_cons_zero, List.set_cons_succ]
            refine wpAnyH_ready (rs := [1, 22]) (by kernel_rfl) (by simp) ?_
            refine AllReadyH.cons rfl (fun K hK => ?hA) (AllReadyH.cons rfl (fun K hK => ?hB) AllReadyH.nil)
            case hA =>
              go_simp
              refine hK.out _ _ HS.out (fun hHeld0 => ?_)
              clear hK K
              try simp only [List.getElem_toArray, List.getElem_cons_zero, List.getElem_cons_succ, Act.put, List.setIfInBounds_toArray, List.set_cons_zero, List.set_cons_succ]
              refine wpAnyH_ready (rs := [22]) (by kernel_rfl) (by simp) ?_
              refine AllReadyH.cons rfl (fun K hK => ?_) AllReadyH.nil
              go_simp
              refine hK.out _ _ ⟨cell_alloc _ q0, cell_alloc _ q1, cell_alloc _ g1, cell_alloc _ g2, cell_alloc _ g3⟩ (fun hHeld1 => ?_)
              clear hK K
              try simp only [List.getElem_toArray, List.getElem_cons_zero, List.getElem_cons_succ, Act.put, List.setIfInBounds_toArray, List.set_cons_zero, List.set_cons_succ]
              refine wpAnyH_ready (rs := [23]) (by kernel_rfl) (by simp) ?_
              refine AllReadyH.cons rfl (fun K hK => ?_) AllReadyH.nil
              (try rw [IntWalk.i64_left]); refine step_append_lies _ rfl (.tmp 36) (.tmp 57) 22 rfl bs 39 i0 (.agg #[.int .i64 0, .int .i64 0, .int .i64 0]) 3 24 Try.underlying22 HI.out Hz0.out Hz1.out Hz2.out rfl (by omega) v q.length (lkcs q) (by simp [Act.eval, Act.put]) ?ho ⟨wr.heap.size, 0, none⟩ 1 1 (lkc ⟨kb, ka, wrap64 (-km)⟩) (by simp [Act.eval, Act.put]) rfl ?hn (lk_one _) (by omega) (by unfold maxLen; omega) (by omega) ?hbb (wr.heap.size + 1) ?hH ?_; (case ho => exact HR.out.row.alloc _); (case hn => exact news_new _ (lkc ⟨kb, ka, wrap64 (-km)⟩) 39 _ rfl); (case hbb => have := HR.out.hb; simp; omega); (case hH => simp); intro g5 cap5 w5 hown5 hgrow5 hat5 hlt5; have hcp := grown_heap (grown_news hgrow5) HR.out.b2 HR.out.hb.2.1 HVB.out; have e0 := cell_of_heap hcp 1; have f0 := frozen_of_heap hcp 1; have le0 := (Array.getElem?_eq_some_iff.1 hcp).1; have q0 := (grown_news hgrow5).cell q0 (fun e => HNE.out w.heap.size (by have := HR.out.hb; omega) e.symm); have q1 := (grown_news hgrow5).cell q1 (fun e => HNE.out w.heap.size (by have := HR.out.hb; omega) e.symm); have g1 := (grown_news hgrow5).cell g1 (fun e => HNE.out ba (by have := HBA.out; have := HR.out.hb; omega) e.symm); have g2 := (grown_news hgrow5).cell g2 (fun e => HNE.out ba (by have := HBA.out; have := HR.out.hb; omega) e.symm); have g3 := (grown_news hgrow5).cell g3 (fun e => HNE.out ba (by have := HBA.out; have := HR.out.hb; omega) e.symm)
              refine hK.out _ _ ⟨q0, q1, g1, g2, g3⟩ (fun hHeld2 => ?_)
              have HSX := Lib.hid (show ((w5.setCell ⟨w1.heap.size, 1, none⟩ (.slice (some ⟨g5, 0, none⟩) (q.length + 1) cap5)).cell? ⟨w.heap.size, 0, none⟩ = some (.int .i64 n) ∧ (w5.setCell ⟨w1.heap.size, 1, none⟩ (.slice (some ⟨g5, 0, none⟩) (q.length + 1) cap5)).cell? ⟨w.heap.size, 1, none⟩ = some (.slice (some ⟨ba, oa, none⟩) l.length c) ∧ (w5.setCell ⟨w1.heap.size, 1, none⟩ (.slice (some ⟨g5, 0, none⟩) (q.length + 1) cap5)).cell? ⟨ba, oa + k * 3, none⟩ = some (.int .i64 ka) ∧ (w5.setCell ⟨w1.heap.size, 1, none⟩ (.slice (some ⟨g5, 0, none⟩) (q.length + 1) cap5)).cell? ⟨ba, oa + k * 3 + 1, none⟩ = some (.int .i64 kb) ∧ (w5.setCell ⟨w1.heap.size, 1, none⟩ (.slice (some ⟨g5, 0, none⟩) (q.length + 1) cap5)).cell? ⟨ba, oa + k * 3 + 2, none⟩ = some (.int .i64 km)) from ⟨cell_other q0 (by have := HR.out.hb; simp; omega), cell_other q1 (by have := HR.out.hb; simp; omega), cell_other g1 (by have := HBA.out; have := HR.out.hb; simp; omega), cell_other g2 (by have := HBA.out; have := HR.out.hb; simp; omega), cell_other g3 (by have := HBA.out; have := HR.out.hb; simp; omega)⟩)
              clear hK K
              try simp only [List.getElem_toArray, List.getElem_cons_zero, List.getElem_cons_succ, Act.put, List.setIfInBounds_toArray, List.set_cons_zero, List.set_cons_succ]
              refine wpAnyH_take (i := 24) (v := ?_) rfl (by kernel_rfl) (by kernel_rfl) (by kernel_rfl) (fun _ _ _ h => h) (Or.inl ⟨by rfl, ?hyy⟩) (by assumption) ?_
              case hyy => (intro w hSw; (try dsimp only at hSw); go_simp; all_goals (with_reducible rfl))
              simp only [List.getElem_toArray, List.getElem_cons_zero, List.getElem_cons_succ, Act.put, List.setIfInBounds_toArray, List.set_cons_zero, List.set_cons_succ]
              refine wpAnyH_ready (rs := [25]) (by kernel_rfl) (by simp) ?_
              refine AllReadyH.cons rfl (fun K hK => ?_) AllReadyH.nil
              go_simp
              refine hK.out _ _ HSX.out (fun hHeld3 => ?_)
              clear hK K
              try simp only [List.getElem_toArray, List.getElem_cons_zero, List.getElem_cons_succ, Act.put, List.setIfInBounds_toArray, List.set_cons_zero, List.set_cons_succ]
              refine wpAnyH_done (by kernel_rfl) ?_ _
              have HR5 := Lib.hid (RS.put HR.out (grown_news hgrow5) hown5 (hat5.imp id (fun e => by rw [e]; omega)) hcp)
              clear hgrow5 hown5 hat5 hlt5 hcp e0 f0 le0 q0 q1 g1 g2 g3 d1
              go_wp2_with (at_builtin; refine app_one rfl _ _ 25 3 (.int .i64 0) 1 8 rfl Try.underlying25 info3 rfl (by omega) u7 _ _ [.int .i64 k] rfl rfl (by simp [World.setCell]) rfl (one1 _ _) (w1.heap.size + 1) HR5.out.oz (by have := HR5.out.hb; omega) (by have := HQL.out.2; omega) (by unfold maxLen; have := HQL.out.2; omega) ?_; intro v3 w4 ho hg hat; have HR4 := Lib.hid (HR5.out.idx (k := (k : Int)) ho hg hat); clear ho hg hat)
              go_roundw
              case rel => exact ⟨k + 1, _, by omega, by go_num, Lib.hid (by rw [HE.out.1, HE.out.2, ← List.append_assoc, HQE.out, ← List.append_assoc]; exact HR4.out)⟩
              case measure => simp [intOf]; omega
            case hB =>
              go_simp
              refine hK.out _ _ ⟨cell_alloc _ q0, cell_alloc _ q1, cell_alloc _ g1, cell_alloc _ g2, cell_alloc _ g3⟩ (fun hHeld0 => ?_)
              clear hK K
              try simp only [List.getElem_toArray, List.getElem_cons_zero, List.getElem_cons_succ, Act.put, List.setIfInBounds_toArray, List.set_cons_zero, List.set_cons_succ]
              refine wpAnyH_ready (rs := [1]) (by kernel_rfl) (by simp) ?_
              refine AllReadyH.cons rfl (fun K hK => ?_) AllReadyH.nil
              go_simp
              refine hK.out _ _ ⟨cell_alloc _ q0, cell_alloc _ q1, cell_alloc _ g1, cell_alloc _ g2, cell_alloc _ g3⟩ (fun hHeld1 => ?_)
              clear hK K
              try simp only [List.getElem_toArray, List.getElem_cons_zero, List.getElem_cons_succ, Act.put, List.setIfInBounds_toArray, List.set_cons_zero, List.set_cons_succ]
              refine wpAnyH_ready (rs := [23]) (by kernel_rfl) (by simp) ?_
              refine AllReadyH.cons rfl (fun K hK => ?_) AllReadyH.nil
              (try rw [IntWalk.i64_left]); refine step_append_lies _ rfl (.tmp 36) (.tmp 57) 22 rfl bs 39 i0 (.agg #[.int .i64 0, .int .i64 0, .int .i64 0]) 3 24 Try.underlying22 HI.out Hz0.out Hz1.out Hz2.out rfl (by omega) v q.length (lkcs q) (by simp [Act.eval, Act.put]) ?ho ⟨wr.heap.size, 0, none⟩ 1 1 (lkc ⟨kb, ka, wrap64 (-km)⟩) (by simp [Act.eval, Act.put]) rfl ?hn (lk_one _) (by omega) (by unfold maxLen; omega) (by omega) ?hbb (wr.heap.size + 1) ?hH ?_; (case ho => exact HR.out.row.alloc _); (case hn => exact news_new _ (lkc ⟨kb, ka, wrap64 (-km)⟩) 39 _ rfl); (case hbb => have := HR.out.hb; simp; omega); (case hH => simp); intro g5 cap5 w5 hown5 hgrow5 hat5 hlt5; have hcp := grown_heap (grown_news hgrow5) HR.out.b2 HR.out.hb.2.1 HVB.out; have e0 := cell_of_heap hcp 1; have f0 := frozen_of_heap hcp 1; have le0 := (Array.getElem?_eq_some_iff.1 hcp).1; have q0 := (grown_news hgrow5).cell q0 (fun e => HNE.out w.heap.size (by have := HR.out.hb; omega) e.symm); have q1 := (grown_news hgrow5).cell q1 (fun e => HNE.out w.heap.size (by have := HR.out.hb; omega) e.symm); have g1 := (grown_news hgrow5).cell g1 (fun e => HNE.out ba (by have := HBA.out; have := HR.out.hb; omega) e.symm); have g2 := (grown_news hgrow5).cell g2 (fun e => HNE.out ba (by have := HBA.out; have := HR.out.hb; omega) e.symm); have g3 := (grown_news hgrow5).cell g3 (fun e => HNE.out ba (by have := HBA.out; have := HR.out.hb; omega) e.symm)
              refine hK.out _ _ ⟨q0, q1, g1, g2, g3⟩ (fun hHeld2 => ?_)
              have HSX := Lib.hid (show ((w5.setCell ⟨w1.heap.size, 1, none⟩ (.slice (some ⟨g5, 0, none⟩) (q.length + 1) cap5)).cell? ⟨w.heap.size, 0, none⟩ = some (.int .i64 n) ∧ (w5.setCell ⟨w1.heap.size, 1, none⟩ (.slice (some ⟨g5, 0, none⟩) (q.length + 1) cap5)).cell? ⟨w.heap.size, 1, none⟩ = some (.slice (some ⟨ba, oa, none⟩) l.length c) ∧ (w5.setCell ⟨w1.heap.size, 1, none⟩ (.slice (some ⟨g5, 0, none⟩) (q.length + 1) cap5)).cell? ⟨ba, oa + k * 3, none⟩ = some (.int .i64 ka) ∧ (w5.setCell ⟨w1.heap.size, 1, none⟩ (.slice (some ⟨g5, 0, none⟩) (q.length + 1) cap5)).cell? ⟨ba, oa + k * 3 + 1, none⟩ = some (.int .i64 kb) ∧ (w5.setCell ⟨w1.heap.size, 1, none⟩ (.slice (some ⟨g5, 0, none⟩) (q.length + 1) cap5)).cell? ⟨ba, oa + k * 3 + 2, none⟩ = some (.int .i64 km)) from ⟨cell_other q0 (by have := HR.out.hb; simp; omega), cell_other q1 (by have := HR.out.hb; simp; omega), cell_other g1 (by have := HBA.out; have := HR.out.hb; simp; omega), cell_other g2 (by have := HBA.out; have := HR.out.hb; simp; omega), cell_other g3 (by have := HBA.out; have := HR.out.hb; simp; omega)⟩)
              clear hK K
              try simp only [List.getElem_toArray, List.getElem_cons_zero, List.getElem_cons_succ, Act.put, List.setIfInBounds_toArray, List.set_cons_zero, List.set_cons_succ]
              refine wpAnyH_take (i := 24) (v := ?_) rfl (by kernel_rfl) (by kernel_rfl) (by kernel_rfl) (fun _ _ _ h => h) (Or.inl ⟨by rfl, ?hyy⟩) (by assumption) ?_
              case hyy => (intro w hSw; (try dsimp only at hSw); go_simp; all_goals (with_reducible rfl))
              simp only [List.getElem_toArray, List.getElem_cons_zero, List.getElem_cons_succ, Act.put, List.setIfInBounds_toArray, List.set_cons_zero, List.set_cons_succ]
              refine wpAnyH_ready (rs := [25]) (by kernel_rfl) (by simp) ?_
              refine AllReadyH.cons rfl (fun K hK => ?_) AllReadyH.nil
              go_simp
              refine hK.out _ _ HSX.out (fun hHeld3 => ?_)
              clear hK K
              try simp only [List.getElem_toArray, List.getElem_cons_zero, List.getElem_cons_succ, Act.put, List.setIfInBounds_toArray, List.set_cons_zero, List.set_cons_succ]
              refine wpAnyH_done (by kernel_rfl) ?_ _
              have HR5 := Lib.hid (RS.put HR.out (grown_news hgrow5) hown5 (hat5.imp id (fun e => by rw [e]; omega)) hcp)
              clear hgrow5 hown5 hat5 hlt5 hcp e0 f0 le0 q0 q1 g1 g2 g3 d1
              go_wp2_with (at_builtin; refine app_one rfl _ _ 25 3 (.int .i64 0) 1 8 rfl Try.underlying25 info3 rfl (by omega) u7 _ _ [.int .i64 k] rfl rfl (by simp [World.setCell]) rfl (one1 _ _) (w1.heap.size + 1) HR5.out.oz (by have := HR5.out.hb; omega) (by have := HQL.out.2; omega) (by unfold maxLen; have := HQL.out.2; omega) ?_; intro v3 w4 ho hg hat; have HR4 := Lib.hid (HR5.out.idx (k := (k : Int)) ho hg hat); clear ho hg hat)
              go_roundw
              case rel => exact ⟨k + 1, _, by omega, by go_num, Lib.hid (by rw [HE.out.1, HE.out.2, ← List.append_assoc, HQE.out, ← List.append_assoc]; exact HR4.out)⟩
              case measure => simp [intOf]; omega
          · have HE := Lib.hid (show restB l u (k + 1) = restB l u k ∧ ndN (fun k => decide (0 < gi u k)) (k + 1) = ndN (fun k => decide (0 < gi u k)) k from ⟨by rw [restB_succ, if_neg h0], by rw [ndN_succ, if_neg (by simpa using h0)]⟩)
            go_wp2
            go_roundw
            case rel => exact ⟨k + 1, v, by omega, by go_num, Lib.hid (by rw [HE.out.1, HE.out.2]; exact HR.out)⟩
            case measure => simp [intOf]; omega
        · obtain rfl : k = l.length := by omega
          have HFIN := Lib.hid (show rigidL l u = l ++ restB l u l.length ∧ restOf l u = ndN (fun _ => true) l.length ++ ndN (fun k => decide (0 < gi u k)) l.length from ⟨by rw [restB_backs HUL.out]; rfl, rfl⟩)
          generalize l ++ restB l u l.length = q at HR HFIN
          generalize ndN (fun _ => true) l.length ++ ndN (fun k => decide (0 < gi u k)) l.length = r at HR HFIN
          have hrow := HR.out.row
          obtain ⟨A6, c6, hv, hv6, hvn6, hvb6⟩ := own_lksV hrow
          subst hv
          have d0 := cell_of_heap HR.out.b2 0
          have d1 := cell_of_heap HR.out.b2 1
          have r0 := cell_of_heap HR.out.b1 0
          have r1 := cell_of_heap HR.out.b1 1
          have f0 := frozen_of_heap HR.out.b1 0
          have f1 := frozen_of_heap HR.out.b1 1
          simp at d0 d1 r0 r1
          have ld := World.block_lt_of_cell? _ _ d0
          have lr := World.block_lt_of_cell? _ _ r0
          clear hrow hv6 hvn6 hvb6
          go_wp2
          have hs2 := set_two (v1 := .int .i64 n) (v2 := .slice A6 q.length c6) r0 r1
          obtain ⟨y0, y1, yg⟩ := hs2
          have HB6 := Lib.hid (below_of_grown HR.out.below yg HR.out.below.size (by omega))
          have hrow2 := HR.out.row.kept yg (.inr (fun e => by
            have h1 := (HR.out.row.lt _ e).1
            have h2 := HR.out.hb
            omega))
          have hz2 := own_mono (b' := w.heap.size) (by have := HR.out.hb; omega) (HR.out.oz.kept yg (.inr (fun e => by
            have h1 := (HR.out.oz.lt _ e).1
            have h2 := HR.out.hb
            omega)))
          obtain ⟨A7, c7, e7, hv7, hvn7, _⟩ := own_lksV hrow2
          refine bodyPost_ret (v := .tuple #[.agg #[.int .i64 n, .slice A6 q.length c6], u7]) ?_ rfl ?_
          · simp [results, Try.results74, go_sem, y0, y1]
          · exact ⟨_, _, rfl, by rw [HFIN.out.1]; exact ⟨A7, c7, e7, hv7, hvn7⟩, by rw [HFIN.out.2]; exact hz2, HB6.out⟩

theorem rep_setv (x : Int) (n k : Nat) (h : k < n) : (List.replicate k x ++ List.replicate (n - k) 0).set k x = List.replicate (k + 1) x ++ List.replicate (n - (k + 1)) 0 := by
  apply List.ext_getElem?
  intro i
  simp only [List.getElem?_set, List.getElem?_append, List.getElem?_replicate, List.length_append, List.length_replicate]
  repeat' split
  all_goals first | rfl | omega | (simp; omega) | simp
theorem riter_length (l : List Lk) : ∀ (r : Nat) (d : List Int), (riter l r d).length = d.length
  | 0, d => rfl
  | r + 1, d => by unfold riter; rw [riter_length l r, foldl_rrelax_length]
theorem bfsLink_ext (rl : List Lk) (d : List Int) (s v : Int) (st : List Int × List Int) (i : Nat) : (bfsLink rl d s v st i).1.length = st.1.length ∧ st.2.length ≤ (bfsLink rl d s v st i).2.length ∧ (bfsLink rl d s v st i).2.length ≤ st.2.length + 1 ∧ ∃ z, (bfsLink rl d s v st i).2 = st.2 ++ z := by
  unfold bfsLink
  split
  · exact ⟨by simp [si], by simp, by simp, _, rfl⟩
  · exact ⟨rfl, Nat.le_refl _, by omega, [], by simp⟩
theorem bfsRow_ext (rl : List Lk) (d : List Int) (s v : Int) (st : List Int × List Int) : ∀ i, (bfsRow rl d s v i st).1.length = st.1.length ∧ st.2.length ≤ (bfsRow rl d s v i st).2.length ∧ (bfsRow rl d s v i st).2.length ≤ st.2.length + i ∧ ∃ z, (bfsRow rl d s v i st).2 = st.2 ++ z
  | 0 => ⟨rfl, Nat.le_refl _, Nat.le_refl _, [], by simp [bfsRow]⟩
  | i + 1 => by
    obtain ⟨h1, h2, h3, z, h4⟩ := bfsRow_ext rl d s v st i
    obtain ⟨g1, g2, g3, y, g4⟩ := bfsLink_ext rl d s v (bfsRow rl d s v i st) i
    exact ⟨g1.trans h1, Nat.le_trans h2 g2, by show (bfsLink rl d s v (bfsRow rl d s v i st) i).2.length ≤ _; omega, z ++ y, by show (bfsLink rl d s v (bfsRow rl d s v i st) i).2 = _; rw [g4, h4, List.append_assoc]⟩
theorem bfsN_cases {rl : List Lk} {d : List Int} {s : Int} {f k : Nat} {st r : List Int × List Int} (h : bfsN rl d s f k st = some r) : ∃ f', f = f' + 1 ∧ ((k < st.2.length ∧ bfsN rl d s f' (k + 1) (bfsRow rl d s (gi st.2 k) rl.length st) = some r) ∨ (¬ k < st.2.length ∧ r = st)) := by
  cases f with
  | zero => cases h
  | succ f =>
    refine ⟨f, rfl, ?_⟩
    unfold bfsN at h
    split at h
    · rename_i h1; exact .inl ⟨h1, h⟩
    · rename_i h1; cases h; exact .inr ⟨h1, rfl⟩
theorem wayB_cases {rl : List Lk} {p : List Int} {s : Int} {f : Nat} {a : Int} {o r : List Int} (h : wayB rl p s f a o = some r) : ∃ f', f = f' + 1 ∧ ((a = s ∧ r = o) ∨ (a ≠ s ∧ 0 ≤ gi p a ∧ gi p a < rl.length ∧ wayB rl p s f' (gl rl (gi p a)).a (gi p a :: o) = some r)) := by
  cases f with
  | zero => cases h
  | succ f =>
    refine ⟨f, rfl, ?_⟩
    unfold wayB at h
    split at h
    · rename_i h1; cases h; exact .inl ⟨h1, rfl⟩
    · rename_i h1
      split at h
      · cases h
      · rename_i h2; exact .inr ⟨h1, by omega, by omega, h⟩
/-- The rows of back. -/
structure BK (w wr : World) (n : Int) (A : Option Addr) (m c g gb : Nat) (d p s : List Int) (v : Value) : Prop where
  b0 : wr.heap[w.heap.size]? = some (.cells #[.int .i64 n, .slice A m c] 24)
  rd : RowI wr g d
  rb : RowI wr gb p
  sn : wr.ownsRow (gb + 1) 3 1 v s.length (ints s)
  below : Below w.heap.size w wr
  hg : w.heap.size < g ∧ g < gb ∧ gb < wr.heap.size
section
variable {w wr w' : World} {n : Int} {A : Option Addr} {m c g gb : Nat} {d p s : List Int} {v v' : Value}
theorem BK.fresh {r : Option Nat} (h : BK w wr n A m c g gb d p s v) (hg : wr.grownBy w' r) (hr : ∀ k, r = some k → wr.heap.size ≤ k) : BK w w' n A m c g gb d p s v := by
  obtain ⟨h1, h2, h3⟩ := h.hg
  have hne : ∀ k, k < wr.heap.size → r ≠ some k := fun k hk e => by have := hr k e; omega
  refine ⟨grown_heap hg h.b0 (by omega) (hne _ (by omega)), h.rd.same (hg.block g (by omega) (fun e => hne g (by omega) e.symm)), h.rb.same (hg.block gb h3 (fun e => hne gb h3 e.symm)), h.sn.kept hg ?_, h.below.grown hg (by omega) (fun k e => by have := hr k e; omega), ⟨h1, h2, Nat.lt_of_lt_of_le h3 hg.size⟩⟩
  cases hv : v.ownBlock with
  | none => exact .inl rfl
  | some k => exact .inr (fun e => hne k (h.sn.lt k hv).2 e.symm)
theorem BK.alloc (h : BK w wr n A m c g gb d p s v) (o : Obj) : BK w (wr.alloc o) n A m c g gb d p s v := h.fresh (r := none) (World.grownBy_alloc wr o none) (fun k e => by cases e)
theorem BK.drews (h : BK w wr n A m c g gb d p s v) (k : Nat) : BK w (wr.drewN k) n A m c g gb d p s v := ⟨h.b0, h.rd, h.rb, h.sn, below_drews h.below k, h.hg⟩
theorem BK.setp (h : BK w wr n A m c g gb d p s v) (j : Nat) (x : Int) : BK w (wr.setCell ⟨gb, j, none⟩ (.int .i64 x)) n A m c g gb d (p.set j x) s v := by
  obtain ⟨h1, h2, h3⟩ := h.hg
  refine ⟨by rw [Below.heap_setCell _ _ _ _ (by show _ ≠ gb; omega)]; exact h.b0, h.rd.other _ _ (by show _ ≠ gb; omega), h.rb.set j x, ?_, Below.setCell h.below (by show w.heap.size ≤ gb; omega) _, ⟨h1, h2, by simpa [World.setCell] using h3⟩⟩
  refine h.sn.kept (row := some gb) (grown_set (grown_refl wr _) _ _ (.inl rfl)) (.inr ?_)
  intro e
  have := (h.sn.lt _ e).1
  omega
theorem BK.app {x : Int} (h : BK w wr n A m c g gb d p s v) (ho : w'.ownsRow (gb + 1) 3 1 v' (s.length + 1) (ints s ++ [.int .i64 x])) (hg : wr.grownBy w' v.ownBlock) : BK w w' n A m c g gb d p (s ++ [x]) v' := by
  obtain ⟨h1, h2, h3⟩ := h.hg
  have hne : ∀ k, k ≤ gb → v.ownBlock ≠ some k := fun k hk e => by have := (h.sn.lt k e).1; omega
  exact ⟨grown_heap hg h.b0 (by omega) (hne _ (by omega)), h.rd.same (hg.block g (by omega) (fun e => hne g (by omega) e.symm)), h.rb.same (hg.block gb h3 (fun e => hne gb (Nat.le_refl _) e.symm)), by rw [List.length_append]; simpa [ints] using ho, h.below.grown hg (by omega) (fun k e => by have := (h.sn.lt k e).1; omega), ⟨h1, h2, Nat.lt_of_lt_of_le h3 hg.size⟩⟩
theorem BK.q0 (h : BK w wr n A m c g gb d p s v) : wr.cell? ⟨w.heap.size, 0, none⟩ = some (.int .i64 n) := by have := cell_of_heap h.b0 0; simpa using this
theorem BK.q1 (h : BK w wr n A m c g gb d p s v) : wr.cell? ⟨w.heap.size, 1, none⟩ = some (.slice A m c) := by have := cell_of_heap h.b0 1; simpa using this
end
set_option maxRecDepth 100000 in
set_option maxHeartbeats 8000000 in
theorem back_any (F : Nat) (P : List Int) (n : Nat) (A : Option Addr) (c : Nat) (l : List Lk) (s t : Int) (w : World) (hn : n ≤ 1000000) (hl : l.length ≤ 2000) (hF : F ≤ 2000000) (h : LksAt w A l) (hr : ∀ k ∈ l, InR n k) (hs0 : 0 ≤ s) (hs1 : s < n) (ht0 : 0 ≤ t) (ht1 : t < n) (hb : backP F n l s t = some P) :
    Calls Try.prog 106 #[.agg #[.int .i64 n, .slice A l.length c], .int .i64 s, .int .i64 t] w fun e w' => ∃ v, e = .returned v ∧ w'.ownsRow w.heap.size 3 1 v P.length (ints P) ∧ Below w.heap.size w w' := by
  have hmk := mkInts n hn
  have HR := Lib.hid hr
  have HA := Lib.hid h
  have HRB := Lib.hid (fun W h1 => rbounds_any n A c l s W hn (by omega) h1 hr hs0 hs1)
  have hdl : (rboundsL n l s).length = n := by unfold rboundsL; rw [riter_length]; simp [si]
  obtain ⟨d, hd⟩ : ∃ d, rboundsL n l s = d := ⟨_, rfl⟩
  rw [hd] at HRB hdl
  have HDL := Lib.hid hdl
  obtain ⟨st, hst, hwy⟩ : ∃ st, bfsN l d s F 0 (List.replicate n (-1), [s]) = some st ∧ wayB l st.1 s F t [] = some P := by
    unfold backP at hb
    rw [hd] at hb
    split at hb
    · cases hb
    · rename_i st e; exact ⟨st, e, hb⟩
  have HST := Lib.hid hst
  have HWY := Lib.hid hwy
  have HLL := Lib.hid (show l.length ≤ 2000 ∧ F ≤ 2000000 from ⟨hl, hF⟩)
  clear h hr hb hd hst hwy hdl
  go_enter Try.func106, Try.ntmps106
  go_upto_region 4 with (go_at_call 36; refine (HRB.out _ (HA.out.alloc _)).mono ?_; rintro e w1 ⟨g, rfl, hg0, hrow, hb⟩; have HB0 := Lib.hid hb; have HRW := Lib.hid hrow; have HG0 := Lib.hid hg0; have c0 := cell_below hb (show (w.alloc (.cells #[.int .i64 n, .slice A l.length c] 24)).cell? ⟨w.heap.size, 0, none⟩ = some (.int .i64 n) by go_simp); have lw := World.block_lt_of_cell? _ _ c0; clear hb hrow hg0)
  have HK0 := Lib.hid (show BK w (w1.alloc (.cells (madeCells #[.int .i64 0] n) 3)) n A l.length c g w1.heap.size d (List.replicate 0 (-1) ++ List.replicate (n - 0) 0) [] (.slice none 0 0) from by
    have h1 := HG0.out
    have h2 := HRW.out.lt
    have h3 := heap_alloc_new w (.cells #[.int .i64 n, .slice A l.length c] 24)
    have h4 := HB0.out.block w.heap.size (by simp)
    have hs := HB0.out.size
    simp only [World.size_alloc] at h1 hs
    refine ⟨?_, HRW.out.alloc _, by simpa using RowI_made w1 n, World.ownsRow_nil _ _ _ _, (below_trans bel HB0.out).alloc (by omega) _, by omega, by omega, by simp⟩
    rw [Below.heap_alloc _ _ _ (by omega), h4]; exact h3)
  obtain ⟨gb, hgb⟩ : ∃ gb, w1.heap.size = gb := ⟨_, rfl⟩
  rw [hgb] at HK0 ⊢
  obtain ⟨W2, hW2⟩ : ∃ W2, w1.alloc (.cells (madeCells #[.int .i64 0] n) 3) = W2 := ⟨_, rfl⟩
  rw [hW2] at HK0 ⊢
  clear hgb hW2 c0 lw HRB hmk
  go_loopw [9] (fun i wr => ∃ k : Nat, k ≤ n ∧ i = .int .i64 k ∧ Hid (BK w wr n A l.length c g gb d (List.replicate k (-1) ++ List.replicate (n - k) 0) [] (.slice none 0 0))) (fun i _ => n - (intOf i).toNat)
  case atStart => exact ⟨0, by omega, rfl, HK0⟩
  case round =>
    obtain ⟨k, hk, rfl, HK⟩ := hrel
    have q0 := HK.out.q0
    have lq := World.block_lt_of_cell? _ _ q0
    by_cases hlt : k < n
    · have c1 := HK.out.rb.cell k (by simp; omega)
      have f1 := HK.out.rb.frozen k
      have hgl := HK.out.rb.lt
      have Hs := Lib.hid (rep_setv (-1) n k hlt)
      go_wp2
      go_roundw
      case rel => exact ⟨k + 1, by omega, by go_num, Lib.hid (by rw [← Hs.out]; exact HK.out.setp _ _)⟩
      case measure => simp [intOf]; omega
    · obtain rfl : k = n := by omega
      have e0 : List.replicate k (-1 : Int) ++ List.replicate (k - k) 0 = List.replicate k (-1) := by simp
      rw [e0] at HK
      clear e0
      go_upto_region 9 with fail
      clear q0 lq hlt
      have HK1 := Lib.hid (show BK w (wr.alloc (.cells #[.int .i64 s] 3)) k A l.length c g gb d (List.replicate k (-1)) [s] (.slice (some ⟨wr.heap.size, 0, none⟩) 1 1) from by
        have h1 := HK.out.alloc (.cells #[.int .i64 s] 3)
        obtain ⟨_, _, h2⟩ := HK.out.hg
        exact ⟨h1.b0, h1.rd, h1.rb, World.ownsRow_lit wr #[.int .i64 s] 1 (by omega) (by unfold maxLen; omega) rfl, h1.below, h1.hg⟩)
      obtain ⟨W3, hW3⟩ : ∃ W3, wr.alloc (.cells #[.int .i64 s] 3) = W3 := ⟨_, rfl⟩
      rw [hW3] at HK1 ⊢
      generalize (Value.slice (some ⟨wr.heap.size, 0, none⟩) 1 1) = v0 at HK1 ⊢
      clear hW3 HK HK0
      go_loopg [10, 11, 12, 13] F (fun gk v i _ _ wr => ∃ (k' : Nat) (p s' : List Int), i = .int .i64 k' ∧ Hid (bfsN l d s gk k' (p, s') = some st) ∧ Hid (BK w wr k A l.length c g gb d p s' v) ∧ Hid (p.length = k ∧ s'.length ≤ 1 + 2000 * k' ∧ k' + gk = F))
      case atStart => exact ⟨0, _, _, rfl, HST, HK1, Lib.hid ⟨by simp, by simp, by omega⟩⟩
      case round =>
        obtain ⟨k', p, s', rfl, HS, HK, HP⟩ := hrel
        obtain ⟨gk', rfl, hcs⟩ := bfsN_cases HS.out
        obtain ⟨Av, cv, hv, _, _, _⟩ := own_slice HK.out.sn
        subst hv
        rcases hcs with ⟨hlt, hnext⟩ | ⟨hge, hfin⟩
        · have HN := Lib.hid hnext
          clear hnext
          simp only at hlt
          obtain ⟨u, hu⟩ : ∃ u, gi s' k' = u := ⟨_, rfl⟩
          have HUU := Lib.hid hu
          have HLT := Lib.hid hlt
          have hsl : (s'.length : Int) ≤ 4000000001 := by have := HP.out; have := HLL.out; omega
          go_wp2
          clear hu
          go_loopw [10, 12, 13] (fun v i _ wr => ∃ j : Nat, j ≤ l.length ∧ i = .int .i64 j ∧ Hid (BK w wr k A l.length c g gb d (bfsRow l d s u j (p, s')).1 (bfsRow l d s u j (p, s')).2 v)) (fun _ i _ _ => l.length - (intOf i).toNat)
          case atStart => exact ⟨0, by omega, rfl, HK⟩
          case round =>
            obtain ⟨j, hj, rfl, HK2⟩ := hrel
            obtain ⟨x1, x2, x3, z, x4⟩ := bfsRow_ext l d s u (p, s') j
            have HX := Lib.hid (show (bfsRow l d s u j (p, s')).1.length = k ∧ k' < (bfsRow l d s u j (p, s')).2.length ∧ (bfsRow l d s u j (p, s')).2.length ≤ 1 + 2000 * k' + j ∧ gi (bfsRow l d s u j (p, s')).2 k' = u by
              have h1 := HP.out
              have h2 := HLL.out
              have h3 := HLT.out
              simp only at x1 x2 x3
              exact ⟨x1.trans h1.1, by omega, by omega, by rw [gi_ext_left x4 h3]; exact HUU.out⟩)
            clear x1 x2 x3 x4
            have HNX := Lib.hid (show bfsRow l d s u (j + 1) (p, s') = bfsLink l d s u (bfsRow l d s u j (p, s')) j from rfl)
            obtain ⟨q, hq⟩ : ∃ q, bfsRow l d s u j (p, s') = q := ⟨_, rfl⟩
            rw [hq] at HK2 HX HNX
            have HQQ := Lib.hid hq
            clear hq
            obtain ⟨p1, s1⟩ := q
            replace HX := Lib.hid (show p1.length = k ∧ k' < s1.length ∧ s1.length ≤ 1 + 2000 * k' + j ∧ gi s1 k' = u from HX.out)
            replace HK2 := Lib.hid (show BK w wr k A l.length c g gb d p1 s1 _ from HK2.out)
            have hk2 : (k' : Int) ≤ 2000000 := by have := HP.out; have := HLL.out; omega
            have HSL := Lib.hid (show s1.length ≤ 4000004000 by have := HX.out; have := HLL.out; omega)
            obtain ⟨Av, cv, hv, _, _, _⟩ := own_slice HK2.out.sn
            subst hv
            have q1 := HK2.out.q1
            have lq := World.block_lt_of_cell? _ _ q1
            by_cases hjl : j < l.length
            · obtain ⟨b, o, rfl, g1, g2, g3⟩ := (HA.out.below HK2.out.below).nat j hjl
              have hb := World.block_lt_of_cell? _ _ g1
              dsimp only at hb
              obtain ⟨i1, i2, i3, i4⟩ := HR.out _ (gl_mem (l := l) (i := j) (by omega) (by omega))
              have HE0 := Lib.hid (show bfsLink l d s u (p1, s1) j = if (gl l j).a = u ∧ (gl l j).b ≠ s ∧ gi p1 (gl l j).b < 0 ∧ wrap64 (gi d (gl l j).a + (gl l j).m) = gi d (gl l j).b then (si p1 (gl l j).b j, s1 ++ [(gl l j).b]) else (p1, s1) from rfl)
              generalize gl l j = q at *
              go_upto_region 15 with fail
              obtain ⟨w2, hw2⟩ : ∃ w2, w2 = wr.alloc (.cells #[.int .i64 q.a, .int .i64 q.b, .int .i64 q.m] 39) := ⟨_, rfl⟩
              rw [← hw2]
              have d0 : w2.cell? ⟨wr.heap.size, 0, none⟩ = some (.int .i64 q.a) := by rw [hw2]; go_simp
              have d1 : w2.cell? ⟨wr.heap.size, 1, none⟩ = some (.int .i64 q.b) := by rw [hw2]; go_simp
              have d2 : w2.cell? ⟨wr.heap.size, 2, none⟩ = some (.int .i64 q.m) := by rw [hw2]; go_simp
              have HK3 := Lib.hid (show BK w w2 k (some ⟨b, o, none⟩) l.length c g gb d p1 s1 (.slice Av s1.length cv) by rw [hw2]; exact HK2.out.alloc _)
              obtain ⟨bs, os, rfl, cs⟩ := (own_ints HK3.out.sn).nat k' HX.out.2.1
              rw [HX.out.2.2.2] at cs
              have cda := HK3.out.rd.cell q.a.toNat (by have := HDL.out; omega)
              have cdb := HK3.out.rd.cell q.b.toNat (by have := HDL.out; omega)
              have cpb := HK3.out.rb.cell q.b.toNat (by have := HX.out.1; omega)
              have fpb := HK3.out.rb.frozen q.b.toNat
              simp only [show ((q.a.toNat : Nat) : Int) = q.a by omega, show ((q.b.toNat : Nat) : Int) = q.b by omega] at cda cdb cpb
              have lgd := HK3.out.rd.lt
              have lgb := HK3.out.rb.lt
              have lgs := World.block_lt_of_cell? _ _ cs
              have lbx := World.block_lt_of_cell? _ _ d0
              dsimp only at lgs lbx
              have hk1 : (k' : Int) < (s1.length : Int) := by have := HX.out.2.1; omega
              clear hw2 g1 g2 g3 hb q1 lq
              cases t1 : (q.a == u)
              · have HE := Lib.hid (show bfsLink l d s u (p1, s1) j = (p1, s1) by rw [HE0.out, if_neg (by simp at t1; simp [t1])])
                go_quiet (fail)
                go_wp2
                go_roundw
                case rel => exact ⟨j + 1, by omega, by go_num, Lib.hid (by rw [HNX.out, HE.out]; exact HK3.out.drews _)⟩
                case measure => simp [intOf]; omega
              · cases t2 : (q.b != s)
                · have HE := Lib.hid (show bfsLink l d s u (p1, s1) j = (p1, s1) by rw [HE0.out, if_neg (by simp at t2; simp [t2])])
                  go_quiet (fail)
                  go_wp2
                  go_roundw
                  case rel => exact ⟨j + 1, by omega, by go_num, Lib.hid (by rw [HNX.out, HE.out]; exact HK3.out.drews _)⟩
                  case measure => simp [intOf]; omega
                · cases t3 : decide (gi p1 q.b < 0)
                  · have HE := Lib.hid (show bfsLink l d s u (p1, s1) j = (p1, s1) by rw [HE0.out, if_neg (by simp at t3; simp; omega)])
                    go_quiet (fail)
                    go_wp2
                    go_roundw
                    case rel => exact ⟨j + 1, by omega, by go_num, Lib.hid (by rw [HNX.out, HE.out]; exact HK3.out.drews _)⟩
                    case measure => simp [intOf]; omega
                  · cases t4 : (wrap64 (gi d q.a + q.m) == gi d q.b)
                    · have HE := Lib.hid (show bfsLink l d s u (p1, s1) j = (p1, s1) by rw [HE0.out, if_neg (by simp at t4; simp [t4])])
                      go_quiet (fail)
                      go_wp2
                      go_roundw
                      case rel => exact ⟨j + 1, by omega, by go_num, Lib.hid (by rw [HNX.out, HE.out]; exact HK3.out.drews _)⟩
                      case measure => simp [intOf]; omega
                    · have HE := Lib.hid (show bfsLink l d s u (p1, s1) j = (si p1 q.b j, s1 ++ [q.b]) by rw [HE0.out, if_pos (by simp at t1 t2 t3 t4; exact ⟨t1, t2, t3, t4⟩)])
                      go_quiet (fail)
                      go_upto_region 17 with fail
                      obtain ⟨w3, hw3⟩ : ∃ w3, w3 = (w2.drewN nq).setCell ⟨gb, q.b.toNat, none⟩ (.int .i64 j) := ⟨_, rfl⟩
                      rw [← hw3]
                      have e1 : w3.cell? ⟨wr.heap.size, 1, none⟩ = some (.int .i64 q.b) := by rw [hw3]; exact cell_other d1 (by have := HK2.out.hg; simp; omega)
                      have HK4 := Lib.hid (show BK w w3 k (some ⟨b, o, none⟩) l.length c g gb d (si p1 q.b j) s1 (.slice (some ⟨bs, os, none⟩) s1.length cv) by rw [hw3]; exact (HK3.out.drews nq).setp q.b.toNat j)
                      have le1 := World.block_lt_of_cell? _ _ e1
                      clear hw3 d0 d1 d2 cs cda cdb cpb fpb lgd lgb lgs lbx
                      go_wp2_with (at_builtin; refine app_one rfl _ _ 25 3 (.int .i64 0) 1 8 rfl Try.underlying25 info3 rfl (by omega) (.slice (some ⟨bs, os, none⟩) s1.length cv) _ _ [.int .i64 q.b] rfl rfl (by simp) rfl (one1 _ _) (gb + 1) HK4.out.sn (by have := HK4.out.hg; omega) (by have := HSL.out; omega) (by unfold maxLen; have := HSL.out; omega) ?_; intro v5 w5 ho hg5 _; have HK5 := Lib.hid (HK4.out.app ho hg5); clear ho hg5)
                      go_roundw
                      case rel => exact ⟨j + 1, by omega, by go_num, Lib.hid (by rw [HNX.out, HE.out]; exact HK5.out)⟩
                      case measure => simp [intOf]; omega
            · obtain rfl : j = l.length := by omega
              have HN2 := Lib.hid (show bfsN l d s gk' (k' + 1) (p1, s1) = some st by have h := HN.out; rw [show gi (p, s').2 k' = u from HUU.out, HQQ.out] at h; exact h)
              go_wp2
              go_roundg gk'
              case measure => omega
              case rel => exact ⟨k' + 1, p1, s1, by go_num, HN2, HK2, Lib.hid (by have h1 := HX.out; have h2 := HLL.out; have h3 := HP.out; exact ⟨h1.1, by omega, by omega⟩)⟩
        · subst hfin
          have HWY2 := Lib.hid (show wayB l p s F t [] = some P from HWY.out)
          have HPL := Lib.hid HP.out.1
          have hge2 : ¬ (k' : Int) < (s'.length : Int) := by simp only at hge; omega
          clear HWY HS HP hge
          go_upto_region 20 with fail
          go_loopg [14, 15] F (fun gk v a wx => ∃ (at_ : Int) (o : List Int), a = .int .i64 at_ ∧ 0 ≤ at_ ∧ at_ < k ∧ Hid (wayB l p s gk at_ o = some P) ∧ Hid (wx.ownsRow w.heap.size 3 1 v o.length (ints o)) ∧ Hid (BK w wx k A l.length c g gb d p s' (.slice Av s'.length cv)) ∧ Hid (o.length + gk = F))
          case atStart => exact ⟨t, [], rfl, ht0, ht1, HWY2, Lib.hid (World.ownsRow_nil _ _ _ _), HK, Lib.hid (by simp)⟩
          case round =>
            obtain ⟨at_, o, rfl, ha0, ha1, HW, HO, HK3, HOL⟩ := hrel
            obtain ⟨gk2, rfl, hcs⟩ := wayB_cases HW.out
            rcases hcs with ⟨rfl, rfl⟩ | ⟨hne, hq0, hq1, hnext⟩
            · have HOO := HO
              go_wp2
              go_ret
              exact ⟨_, rfl, HO.out, HK3.out.below⟩
            · have HN := Lib.hid hnext
              have hne2 : (at_ != s) = true := by simpa using hne
              clear hnext hne
              obtain ⟨Ao, co, rfl, _, hnil, _⟩ := own_slice HO.out
              have hints := own_ints HO.out
              have HIN := Lib.hid hints
              have HNIL := Lib.hid hnil
              clear hints hnil
              have HOB := Lib.hid (show o.length ≤ 2000000 by have := HOL.out; have := HLL.out; omega)
              have cpa := HK3.out.rb.cell at_.toNat (by have := HPL.out; omega)
              simp only [show ((at_.toNat : Nat) : Int) = at_ by omega] at cpa
              obtain ⟨q, hq⟩ : ∃ q, gi p at_ = q := ⟨_, rfl⟩
              rw [hq] at cpa hq0 hq1 HN
              have HQ := Lib.hid hq
              have lgb := HK3.out.rb.lt
              clear hq
              go_upto_region 21 with (at_builtin; refine app_many rfl _ _ 25 3 (.int .i64 0) 1 8 rfl Try.underlying25 info3 rfl (by omega) (.slice (some ⟨wr.heap.size, 0, none⟩) 1 1) 1 [.int .i64 q] (ints o) o.length co Ao rfl rfl HNIL.out (by simp [ints]) (ints_one o) (HIN.out.alloc _).cells wr.heap.size (World.ownsRow_lit wr #[.int .i64 q] 1 (Nat.le_refl _) (by unfold maxLen; omega) rfl) (by simp) (by have := HOB.out; omega) (by unfold maxLen; have := HOB.out; omega) ?_; intro v5 w5 ho hg5 _; have HK4 := Lib.hid (HK3.out.fresh (World.grownBy.trans (World.grownBy_alloc wr _ _) hg5) (fun k e => by simp [Value.ownBlock] at e; omega)); have HO5 := Lib.hid (own_mono HK3.out.below.size ho); clear ho hg5)
              have q1 := HK4.out.q1
              have lq := World.block_lt_of_cell? _ _ q1
              have cpa := HK4.out.rb.cell at_.toNat (by have := HPL.out; omega)
              simp only [show ((at_.toNat : Nat) : Int) = at_ by omega] at cpa
              rw [HQ.out] at cpa
              have lgb := HK4.out.rb.lt
              obtain ⟨bl, ol, rfl, g1, g2, g3⟩ := (HA.out.below HK4.out.below) q hq0 hq1
              have lg1 := World.block_lt_of_cell? _ _ g1
              obtain ⟨i1, i2, _, _⟩ := HR.out _ (gl_mem hq0 hq1)
              generalize hqa : (gl l q).a = qa at *
              have HO6 := Lib.hid (show w5.ownsRow w.heap.size 3 1 v5 (q :: o).length (ints (q :: o)) by simpa [ints, Nat.add_comm] using HO5.out)
              go_quiet (fail)
              go_wp2
              go_roundg gk2
              case measure => omega
              case rel => exact ⟨_, q :: o, rfl, i1, i2, HN, HO6, HK4.out.drews _, Lib.hid (by have := HOL.out; simp; omega)⟩

theorem carryN_cases {F n k v : Nat} {l : List Lk} {u f : List Int} {r : Option (List Int)} (h : carryN F l n k v u f = some r) : ∃ k', k = k' + 1 ∧
    ((¬ v < n ∧ r = some u) ∨ (v < n ∧ 0 ≤ gi f v ∧ carryN F l n k' (v + 1) u f = some r) ∨
     (v < n ∧ ¬ 0 ≤ gi f v ∧ toN f (rboundsL n (rigidL l u) v) n n 0 = n ∧ r = none) ∨
     (v < n ∧ ¬ 0 ≤ gi f v ∧ ∃ (t : Nat) (P : List Int) (m : Int) (f1 : List Int), toN f (rboundsL n (rigidL l u) v) n n 0 = t ∧ t < n ∧ backP F n (rigidL l u) v t = some P ∧ m = P.foldl (capC l u (restOf l u)) (mn (wrap64 (0 - gi f v)) (gi f t)) ∧ f1 = si f v (wrap64 (gi f v + m)) ∧
        carryN F l n k' v (P.foldl (moveC l (restOf l u) m) u) (si f1 t (wrap64 (gi f1 t - m))) = some r)) := by
  cases k with
  | zero => cases h
  | succ k =>
    refine ⟨k, rfl, ?_⟩
    unfold carryN at h
    split at h
    · rename_i h1
      split at h
      · rename_i h2; exact .inr (.inl ⟨h1, h2, h⟩)
      · rename_i h2
        right; right
        obtain ⟨t, ht⟩ : ∃ t, toN f (rboundsL n (rigidL l u) v) n n 0 = t := ⟨_, rfl⟩
        rw [ht] at h
        split at h
        · rename_i h3; cases h; exact .inl ⟨h1, h2, ht.trans h3, rfl⟩
        · rename_i h3
          split at h
          · cases h
          · rename_i P hP
            have hs := toN_spec f (rboundsL n (rigidL l u) v) n n 0 (by omega) (by omega) (fun i hi => by omega)
            rw [ht] at hs
            exact .inr ⟨h1, h2, t, P, _, _, ht, by rcases hs with hs | hs <;> omega, hP, rfl, rfl, h⟩
    · rename_i h1; cases h; exact .inl ⟨h1, rfl⟩
theorem wayB_mem {rl : List Lk} {p : List Int} {s : Int} : ∀ {f : Nat} {a : Int} {o r : List Int}, wayB rl p s f a o = some r → (∀ q ∈ o, 0 ≤ q ∧ q < rl.length) → (∀ q ∈ r, 0 ≤ q ∧ q < rl.length) ∧ r.length ≤ o.length + f := by
  intro f
  induction f with
  | zero => intro a o r h; cases h
  | succ f ih =>
    intro a o r h ho
    obtain ⟨f', e, hc⟩ := wayB_cases h
    cases e
    rcases hc with ⟨_, rfl⟩ | ⟨_, h1, h2, h3⟩
    · exact ⟨ho, by omega⟩
    · obtain ⟨g1, g2⟩ := ih h3 (fun q hq => by
        rcases List.mem_cons.1 hq with e | e
        · rw [e]; exact ⟨h1, h2⟩
        · exact ho q e)
      exact ⟨g1, by simp at g2; omega⟩
theorem backP_mem {F n : Nat} {rl : List Lk} {s t : Int} {P : List Int} (h : backP F n rl s t = some P) : (∀ q ∈ P, 0 ≤ q ∧ q < rl.length) ∧ P.length ≤ F := by
  unfold backP at h
  split at h
  · cases h
  · obtain ⟨h1, h2⟩ := wayB_mem h (by simp)
    exact ⟨h1, by simpa using h2⟩
theorem rest_len {l : List Lk} {u : List Int} (hu : u.length = l.length) : (restOf l u).length = (rigidL l u).length := by
  obtain ⟨n1, n2⟩ := ndN_all l.length
  obtain ⟨b1, b2⟩ := back_idx hu l.length (Nat.le_refl _)
  rw [List.take_of_length_le (by simp; omega)] at b1
  have hb : backs l u = (l.zip u).filterMap fun p => if 0 < p.2 then some (⟨p.1.b, p.1.a, wrap64 (-p.1.m)⟩ : Lk) else none := rfl
  unfold restOf rigidL
  rw [List.length_append, List.length_append, n1, hb, b1]
theorem rest_at {l : List Lk} {u : List Int} (hu : u.length = l.length) {q : Int} (h0 : 0 ≤ q) (h1 : q < (rigidL l u).length) : 0 ≤ gi (restOf l u) q ∧ gi (restOf l u) q < l.length := by
  have e : ((q.toNat : Nat) : Int) = q := by omega
  have hr := rest_link hu q.toNat (by omega)
  rw [e] at hr
  rcases hr with ⟨r1, _, r3⟩ | ⟨r1, j, r2, r3, r4, r5⟩
  · rw [r3]; omega
  · rw [r4]; omega
theorem moveC_len (l : List Lk) (of_ : List Int) (m : Int) (u : List Int) (q : Int) : (moveC l of_ m u q).length = u.length := by
  unfold moveC; split <;> simp [si]
theorem foldM_len (l : List Lk) (of_ : List Int) (m : Int) : ∀ (P : List Int) (u : List Int), (P.foldl (moveC l of_ m) u).length = u.length
  | [], _ => rfl
  | q :: P, u => by rw [List.foldl_cons, foldM_len l of_ m P, moveC_len]
theorem rigid_len {l : List Lk} {u : List Int} (hu : u.length = l.length) : (rigidL l u).length ≤ 2 * l.length := by
  have h1 := restB_len l u l.length
  rw [restB_backs hu] at h1
  unfold rigidL
  rw [List.length_append]
  omega
theorem toN_go {f d : List Int} {n t : Nat} (h : t < n) (hc : gi f t ≤ 0 ∨ 1152921504606846976 ≤ gi d t) : toN f d n (n - t) t = toN f d n (n - (t + 1)) (t + 1) := by
  rw [show n - t = (n - (t + 1)) + 1 by omega]
  conv => lhs; unfold toN
  rw [if_pos ⟨h, hc⟩]
theorem toN_stop {f d : List Int} {n t : Nat} (h : t < n) (hc : ¬ (gi f t ≤ 0 ∨ 1152921504606846976 ≤ gi d t)) : toN f d n (n - t) t = t := by
  rw [show n - t = (n - (t + 1)) + 1 by omega]
  unfold toN
  rw [if_neg (fun h => hc h.2)]
theorem toN_end (f d : List Int) (n : Nat) : toN f d n (n - n) n = n := by
  rw [Nat.sub_self]; rfl
theorem rigid_in {n : Nat} {l : List Lk} {u : List Int} (hu : u.length = l.length) (hr : ∀ k ∈ l, InR n k) : ∀ k ∈ rigidL l u, InR n k := by
  intro k hk
  rcases List.mem_append.1 hk with hk | hk
  · exact hr k hk
  · obtain ⟨j, hj, h0, rfl⟩ := (backs_at hu).1 hk
    obtain ⟨a, b, c, d⟩ := hr (gl l j) (gl_mem (by omega) (by omega))
    exact ⟨c, d, a, b⟩
/-- The rows of Carry. -/
structure CK (w wr : World) (n : Int) (A : Option Addr) (m c gu gf : Nat) (u f : List Int) : Prop where
  b0 : wr.heap[w.heap.size]? = some (.cells #[.int .i64 n, .slice A m c] 24)
  ru : RowI wr gu u
  rf : RowI wr gf f
  below : Below w.heap.size w wr
  hg : w.heap.size < gu ∧ w.heap.size < gf ∧ gu ≠ gf
section
variable {w wr w' : World} {n : Int} {A : Option Addr} {m c gu gf : Nat} {u f : List Int}
theorem CK.calls (h : CK w wr n A m c gu gf u f) (hb : Below wr.heap.size wr w') : CK w w' n A m c gu gf u f := by
  have h1 := h.below.size
  have h2 := h.ru.lt
  exact ⟨(hb.block _ (by have := h.hg; omega)).trans h.b0, h.ru.below hb, h.rf.below hb, h.below.trans (hb.mono h1), h.hg⟩
theorem CK.alloc (h : CK w wr n A m c gu gf u f) (o : Obj) : CK w (wr.alloc o) n A m c gu gf u f := h.calls ((Below.refl _ _).alloc (Nat.le_refl _) _)
theorem CK.drews (h : CK w wr n A m c gu gf u f) (k : Nat) : CK w (wr.drewN k) n A m c gu gf u f := ⟨h.b0, h.ru, h.rf, below_drews h.below k, h.hg⟩
theorem CK.drew (h : CK w wr n A m c gu gf u f) : CK w wr.drew n A m c gu gf u f := ⟨h.b0, h.ru, h.rf, below_drews h.below 1, h.hg⟩
theorem CK.setu (h : CK w wr n A m c gu gf u f) (j : Nat) (x : Int) : CK w (wr.setCell ⟨gu, j, none⟩ (.int .i64 x)) n A m c gu gf (u.set j x) f := by
  obtain ⟨h1, h2, h3⟩ := h.hg
  exact ⟨by rw [Below.heap_setCell _ _ _ _ (by show _ ≠ gu; omega)]; exact h.b0, h.ru.set j x, h.rf.other _ _ (by show _ ≠ gu; omega), Below.setCell h.below (by show w.heap.size ≤ gu; omega) _, h.hg⟩
theorem CK.setf (h : CK w wr n A m c gu gf u f) (j : Nat) (x : Int) : CK w (wr.setCell ⟨gf, j, none⟩ (.int .i64 x)) n A m c gu gf u (f.set j x) := by
  obtain ⟨h1, h2, h3⟩ := h.hg
  exact ⟨by rw [Below.heap_setCell _ _ _ _ (by show _ ≠ gf; omega)]; exact h.b0, h.ru.other _ _ (by show _ ≠ gf; omega), h.rf.set j x, Below.setCell h.below (by show w.heap.size ≤ gf; omega) _, h.hg⟩
theorem CK.q0 (h : CK w wr n A m c gu gf u f) : wr.cell? ⟨w.heap.size, 0, none⟩ = some (.int .i64 n) := by have := cell_of_heap h.b0 0; simpa using this
theorem CK.q1 (h : CK w wr n A m c gu gf u f) : wr.cell? ⟨w.heap.size, 1, none⟩ = some (.slice A m c) := by have := cell_of_heap h.b0 1; simpa using this
end
/-- What Carry holds behind its first calls. -/
structure CL (w wr : World) (n : Int) (A : Option Addr) (m c gu gf : Nat) (u f : List Int) (bb : Nat) (A2 : Option Addr) (c2 : Nat) (rl : List Lk) (gd : Nat) (dd : List Int) (bz : Nat) (z : Value) (of_ : List Int) : Prop where
  ck : CK w wr n A m c gu gf u f
  bx : wr.heap[bb]? = some (.cells #[.int .i64 n, .slice A2 rl.length c2] 24)
  al : LksAt wr A2 rl
  rd : RowI wr gd dd
  oz : wr.ownsRow bz 3 1 z of_.length (ints of_)
  hz : gu < bz
theorem CL.made {w w2 w3 : World} {n : Int} {A : Option Addr} {m c gu gf : Nat} {u f : List Int} {A2 : Option Addr} {c2 : Nat} {rl : List Lk} {gd : Nat} {dd : List Int} {bz : Nat} {z : Value} {of_ : List Int} (h : CK w w2 n A m c gu gf u f) (hl : LksAt w2 A2 rl) (ho : w2.ownsRow bz 3 1 z of_.length (ints of_)) (hz : gu < bz) (hb : Below (w2.alloc (.cells #[.int .i64 n, .slice A2 rl.length c2] 24)).heap.size (w2.alloc (.cells #[.int .i64 n, .slice A2 rl.length c2] 24)) w3) (hr : RowI w3 gd dd) :
    CL w w3 n A m c gu gf u f w2.heap.size A2 c2 rl gd dd bz z of_ := by
  refine ⟨(h.alloc _).calls hb, (hb.block _ (by simp)).trans (heap_alloc_new _ _), (hl.alloc _).below hb, hr, ?_, hz⟩
  exact (ho.alloc _).kept (row := none) ⟨hb.os, hb.tape, hb.output, hb.size, fun k hk _ => hb.block k hk⟩ (by cases z.ownBlock <;> simp)
/-- What one round of Carry's loops reads: the path, and what its links stand for. -/
structure CP (w wr : World) (n : Int) (A : Option Addr) (m c gu gf : Nat) (u f : List Int) (AP Az : Option Addr) (P of_ : List Int) : Prop where
  ck : CK w wr n A m c gu gf u f
  ip : IntsAt wr AP P
  iz : IntsAt wr Az of_
  ap : Apart AP P.length (some gu)
  az : Apart Az of_.length (some gu)
theorem CP.drews {w wr : World} {n : Int} {A : Option Addr} {m c gu gf : Nat} {u f : List Int} {AP Az : Option Addr} {P of_ : List Int} (h : CP w wr n A m c gu gf u f AP Az P of_) (k : Nat) : CP w (wr.drewN k) n A m c gu gf u f AP Az P of_ := ⟨h.ck.drews k, h.ip, h.iz, h.ap, h.az⟩
theorem CP.drew {w wr : World} {n : Int} {A : Option Addr} {m c gu gf : Nat} {u f : List Int} {AP Az : Option Addr} {P of_ : List Int} (h : CP w wr n A m c gu gf u f AP Az P of_) : CP w wr.drew n A m c gu gf u f AP Az P of_ := ⟨h.ck.drew, h.ip, h.iz, h.ap, h.az⟩
theorem CP.setu {w wr : World} {n : Int} {A : Option Addr} {m c gu gf : Nat} {u f : List Int} {AP Az : Option Addr} {P of_ : List Int} (h : CP w wr n A m c gu gf u f AP Az P of_) (j : Nat) (x : Int) : CP w (wr.setCell ⟨gu, j, none⟩ (.int .i64 x)) n A m c gu gf (u.set j x) f AP Az P of_ :=
  ⟨h.ck.setu j x, h.ip.grown (grown_set (grown_refl wr (some gu)) _ _ (.inl rfl)) h.ap, h.iz.grown (grown_set (grown_refl wr (some gu)) _ _ (.inl rfl)) h.az, h.ap, h.az⟩
theorem apart_of {wr : World} {A : Option Addr} {c m g : Nat} {v : Value} {l : List Int} (h : wr.ownsRow m 3 1 v l.length (ints l)) (e : v = .slice A l.length c) (hg : g < m) : Apart A l.length (some g) := by
  obtain ⟨A', c', e', _, _, h4⟩ := own_slice h
  rw [e] at e'
  cases e'
  intro ad e2 _ e3
  have := (h4 ad e2).2.1
  cases e3
  omega
set_option maxRecDepth 100000 in
set_option maxHeartbeats 8000000 in
theorem carry_any (F : Nat) (r : Option (List Int)) (n : Nat) (A : Option Addr) (c : Nat) (l : List Lk) (B : Option Addr) (d : Nat) (x : List Int) (w : World) (hn0 : 0 < n) (hn : n ≤ 1000000) (hl : l.length ≤ 1000) (hF : F ≤ 2000000) (hx : x.length = n) (hnil : A = none → l.length = 0 ∧ c = 0) (h : LksAt w A l) (h' : IntsAt w B x) (hr : ∀ k ∈ l, InR n k) (hc : carryN F l n F 0 (List.replicate l.length 0) x = some r) :
    Calls Try.prog 73 #[.agg #[.int .i64 n, .slice A l.length c], .slice B x.length d] w fun e w' => ∃ v, e = .returned (.tuple #[v, .bool r.isSome]) ∧ IntsV w' v (r.getD []) ∧ Below w.heap.size w w' := by
  have HA := Lib.hid h
  have HB := Lib.hid h'
  have HR := Lib.hid hr
  have HC := Lib.hid hc
  have HNIL := Lib.hid hnil
  have HX := Lib.hid hx
  have HFF := Lib.hid hF
  have hx0 : 0 < x.length := by omega
  have HX0 := Lib.hid hx0
  have HXL := Lib.hid (show x.length ≤ 1000000 by omega)
  have HNB := Lib.hid (show B = none → x.length = 0 ∧ d = 0 from fun e => by obtain ⟨b, o, e2, _⟩ := HB.out.nat 0 hx0; rw [e] at e2; cases e2)
  clear h h' hr hc hnil hx hF hx0
  have hmk := mkInts l.length (by omega)
  obtain ⟨W1, hW1⟩ : ∃ W1, W1 = (w.alloc (.cells #[.int .i64 n, .slice A l.length c] 24)).alloc (.cells (madeCells #[.int .i64 0] l.length) 3) := ⟨_, rfl⟩
  have HW1 := Lib.hid hW1
  have HWF := Lib.hid (show W1.heap.size = w.heap.size + 2 ∧ W1.heap[w.heap.size]? = some (.cells #[.int .i64 n, .slice A l.length c] 24) ∧ RowI W1 (w.heap.size + 1) (List.replicate l.length 0) ∧ Below w.heap.size w W1 from by
    rw [hW1]
    refine ⟨by simp, ?_, by have := RowI_made (w.alloc (.cells #[.int .i64 n, .slice A l.length c] 24)) l.length; simpa using this, bel⟩
    rw [Below.heap_alloc _ _ _ (by simp)]; exact heap_alloc_new _ _)
  have HB1 := Lib.hid (HB.out.below HWF.out.2.2.2)
  clear hW1
  go_enter Try.func73, Try.ntmps73
  go_upto_region 2 with fail
  rw [← HW1.out]
  clear hmk HW1
  go_upto_region 4 with (at_builtin; refine app_many rfl _ _ 25 3 (.int .i64 0) 1 8 rfl Try.underlying25 info3 rfl (by omega) (.slice (some ⟨W1.heap.size, 0, none⟩) 0 0) 0 [] (ints x) x.length d B (by rfl) rfl HNB.out (by simp [ints]) (ints_one x) (HB1.out.alloc _).cells W1.heap.size (own_empty _ 3 1) (by simp) (by have := HXL.out; omega) (by unfold maxLen; have := HXL.out; omega) ?_; intro v1 w1 ho hg _; have HO := Lib.hid (show w1.ownsRow W1.heap.size 3 1 v1 x.length (ints x) by simpa using ho); have HG := Lib.hid (show W1.grownBy w1 (some W1.heap.size) from World.grownBy.trans (World.grownBy_alloc W1 _ _) hg); clear ho hg)
  obtain ⟨gf, cf, rfl, hgf, hrf⟩ := own_form HO.out HX0.out
  have HK0 := Lib.hid (show CK w w1 n A l.length c (w.heap.size + 1) gf (List.replicate l.length 0) x from by
    obtain ⟨h1, h2, h3, h4⟩ := HWF.out
    refine ⟨grown_heap HG.out h2 (by omega) (by simp; omega), h3.same (HG.out.block _ (by omega) (by simp; omega)), hrf, h4.grown HG.out (by omega) (fun k e => by cases e; omega), by omega, by omega, by omega⟩)
  obtain ⟨gu, hgu⟩ : ∃ gu, w.heap.size + 1 = gu := ⟨_, rfl⟩
  rw [hgu] at HK0 ⊢
  clear hgu hgf hrf HO HG HWF HB1
  go_loopg [8, 9, 10, 11, 12, 13, 14, 15, 16] F (fun gk i _ _ _ _ _ _ _ _ wr => ∃ (v : Nat) (u f : List Int), i = .int .i64 v ∧ v ≤ n ∧ Hid (carryN F l n gk v u f = some r) ∧ Hid (CK w wr n A l.length c gu gf u f) ∧ Hid (u.length = l.length ∧ f.length = n))
  case atStart => exact ⟨0, _, _, rfl, by omega, HC, HK0, Lib.hid ⟨by simp, HX.out⟩⟩
  case round =>
    obtain ⟨v, u, f, rfl, hv, HCN, HK, HL⟩ := hrel
    obtain ⟨gk', rfl, hcs⟩ := carryN_cases HCN.out
    have q0 := HK.out.q0
    have lq := World.block_lt_of_cell? _ _ q0
    have HFL := Lib.hid (show (f.length : Int) = n by have := HL.out; omega)
    rcases hcs with ⟨hge, hfin⟩ | ⟨hlt, h0, hnext⟩ | ⟨hlt, h0, ht, hfin⟩ | ⟨hlt, h0, t, P, m, f1, ht, htn, hbk, hm, hf1, hnext⟩
    · have HFIN := Lib.hid hfin
      have HRI := Lib.hid (show IntsV wr (.slice (some ⟨gu, 0, none⟩) l.length l.length) u by have := HK.out.ru.intsV (c := l.length); rw [HL.out.1] at this; exact this)
      clear hfin
      go_wp2
      go_ret2
      exact ⟨_, by rw [HFIN.out]; rfl, by rw [HFIN.out]; exact HRI.out, HK.out.below⟩
    · have HN := Lib.hid hnext
      have cf := HK.out.rf.cell v (by have := HL.out; omega)
      have lf := HK.out.rf.lt
      have HXF := Lib.hid (show f.length = x.length by have h1 := HL.out; have h2 := HX.out; omega)
      have hvx : (v : Int) < (x.length : Int) := by have := HX.out; omega
      clear hnext
      go_wp2
      go_roundg gk'
      case measure => omega
      case rel => exact ⟨v + 1, u, f, by go_num, by omega, HN, HK, HL⟩
    · have cf := HK.out.rf.cell v (by have := HL.out; omega)
      have lf := HK.out.rf.lt
      have hvx : (v : Int) < (x.length : Int) := by have := HX.out; omega
      have hlt2 : (v : Int) < (n : Int) := by omega
      have q1 := HK.out.q1
      have hru := rigid_in HL.out.1 HR.out
      have HRE := Lib.hid (rest_any n A c l (some ⟨gu, 0, none⟩) l.length u wr hl HL.out.1 HNIL.out (HA.out.below HK.out.below) HK.out.ru.ints)
      have HRG := Lib.hid (show (rigidL l u).length ≤ 2000 by have := rigid_len HL.out.1; omega)
      have HRB := Lib.hid (fun A2 c2 W h1 => rbounds_any n A2 c2 (rigidL l u) v W hn (by have := HRG.out; omega) h1 hru (by omega) (by omega))
      have HDL := Lib.hid (show (rboundsL n (rigidL l u) v).length = n by unfold rboundsL; rw [riter_length]; simp [si])
      rw [HL.out.1] at HRE
      have HT := Lib.hid ht
      have HFIN := Lib.hid hfin
      generalize hrl : rigidL l u = rl at HRE HRG HRB HT HDL
      generalize hof : restOf l u = of_ at HRE
      generalize hdd : rboundsL n rl v = dd at HRB HT HDL
      clear hrl hof hru ht hdd hfin
      go_upto_region 10 with (first | (go_at_call 74; refine HRE.out.mono ?_; rintro e w2 ⟨v2, z2, rfl, hv2, hz, hb⟩; obtain ⟨A2, c2, rfl, hl2, hn2⟩ := hv2; have HL2 := Lib.hid hl2; have HZ2 := Lib.hid hz; have HK2 := Lib.hid (HK.out.calls hb); clear hb hl2 hn2 hz HRE; replace q0 := HK2.out.q0; replace lq := World.block_lt_of_cell? _ _ q0; replace q1 := HK2.out.q1; clear cf lf) | (go_at_call 36; refine (HRB.out A2 c2 _ (HL2.out.alloc _)).mono ?_; rintro e w3 ⟨gd, rfl, hgd, hrow, hb⟩; have HC3 := Lib.hid (CL.made (of_ := of_) HK2.out HL2.out HZ2.out (HK.out.ru.lt) hb hrow); clear hb hrow hgd HRB HL2 HZ2 HK2; replace q0 := HC3.out.ck.q0; replace lq := World.block_lt_of_cell? _ _ q0; clear q1))
      generalize hbb : w2.heap.size = bb at HC3 ⊢
      generalize hbz : wr.heap.size = bz at HC3
      clear hbb hbz q0 lq
      go_loopw [12] (fun i wx => ∃ t : Nat, t ≤ n ∧ i = .int .i64 t ∧ Hid (toN f dd n (n - t) t = n) ∧ Hid (CL w wx n A l.length c gu gf u f bb A2 c2 rl gd dd bz z2 of_)) (fun i _ => n - (intOf i).toNat)
      case atStart => exact ⟨0, by omega, rfl, HT, HC3⟩
      case round =>
        obtain ⟨t, htn, rfl, HT, HC⟩ := hrel
        have q0 := HC.out.ck.q0
        have lq := World.block_lt_of_cell? _ _ q0
        by_cases htlt : t < n
        · have hti : (t : Int) < (n : Int) := by omega
          have htx : (t : Int) < (x.length : Int) := by have := HX.out; omega
          have cf := HC.out.ck.rf.cell t (by have := HL.out; omega)
          have lf := HC.out.ck.rf.lt
          have cd := HC.out.rd.cell t (by have := HDL.out; omega)
          have ld := HC.out.rd.lt
          by_cases hft : gi f t ≤ 0
          · have HTG := Lib.hid (toN_go (d := dd) htlt (.inl hft))
            go_wp2
            go_roundw
            case rel => exact ⟨t + 1, by omega, by go_num, Lib.hid (by rw [← HTG.out]; exact HT.out), HC⟩
            case measure => simp [intOf]; omega
          · by_cases hdt : 1152921504606846976 ≤ gi dd t
            · have HTG := Lib.hid (toN_go (f := f) htlt (.inr hdt))
              go_wp2
              go_roundw
              case rel => exact ⟨t + 1, by omega, by go_num, Lib.hid (by rw [← HTG.out]; exact HT.out), HC⟩
              case measure => simp [intOf]; omega
            · have := (toN_stop (f := f) (d := dd) htlt (by omega)).symm.trans HT.out
              omega
        · obtain rfl : t = n := by omega
          go_wp2
          go_ret2
          exact ⟨_, by rw [HFIN.out]; rfl, by rw [HFIN.out]; exact IntsV.nil _, HC.out.ck.below⟩
    · have cf := HK.out.rf.cell v (by have := HL.out; omega)
      have lf := HK.out.rf.lt
      have hvx : (v : Int) < (x.length : Int) := by have := HX.out; omega
      have hlt2 : (v : Int) < (n : Int) := by omega
      have q1 := HK.out.q1
      have hru := rigid_in HL.out.1 HR.out
      have HRE := Lib.hid (rest_any n A c l (some ⟨gu, 0, none⟩) l.length u wr hl HL.out.1 HNIL.out (HA.out.below HK.out.below) HK.out.ru.ints)
      have HRG := Lib.hid (show (rigidL l u).length ≤ 2000 by have := rigid_len HL.out.1; omega)
      have HRB := Lib.hid (fun A2 c2 W h1 => rbounds_any n A2 c2 (rigidL l u) v W hn (by have := HRG.out; omega) h1 hru (by omega) (by omega))
      have HBK := Lib.hid (fun A2 c2 W h1 => back_any F P n A2 c2 (rigidL l u) v t W hn HRG.out HFF.out h1 hru (by omega) (by omega) (by omega) (by omega) hbk)
      have HPM := Lib.hid (backP_mem hbk)
      have HOF := Lib.hid (fun q (h0 : 0 ≤ q) h1 => rest_at HL.out.1 (q := q) h0 h1)
      have HOL := Lib.hid (rest_len HL.out.1)
      have HDL := Lib.hid (show (rboundsL n (rigidL l u) v).length = n by unfold rboundsL; rw [riter_length]; simp [si])
      rw [HL.out.1] at HRE
      have HT := Lib.hid ht
      have HM := Lib.hid hm
      have HF1 := Lib.hid hf1
      have HN := Lib.hid hnext
      generalize hrl : rigidL l u = rl at HRE HRG HRB HT HBK HPM HOF HOL HDL
      generalize hof : restOf l u = of_ at HRE HOF HOL HM HN
      generalize hdd : rboundsL n rl v = dd at HRB HT HDL
      clear hrl hof hru ht hdd hm hf1 hnext hbk
      go_upto_region 10 with (first | (go_at_call 74; refine HRE.out.mono ?_; rintro e w2 ⟨v2, z2, rfl, hv2, hz, hb⟩; obtain ⟨A2, c2, rfl, hl2, hn2⟩ := hv2; have HL2 := Lib.hid hl2; have HZ2 := Lib.hid hz; have HK2 := Lib.hid (HK.out.calls hb); clear hb hl2 hn2 hz HRE; replace q0 := HK2.out.q0; replace lq := World.block_lt_of_cell? _ _ q0; replace q1 := HK2.out.q1; clear cf lf) | (go_at_call 36; refine (HRB.out A2 c2 _ (HL2.out.alloc _)).mono ?_; rintro e w3 ⟨gd, rfl, hgd, hrow, hb⟩; have HC3 := Lib.hid (CL.made (of_ := of_) HK2.out HL2.out HZ2.out (HK.out.ru.lt) hb hrow); clear hb hrow hgd HRB HL2 HZ2 HK2; replace q0 := HC3.out.ck.q0; replace lq := World.block_lt_of_cell? _ _ q0; clear q1))
      generalize hbb : w2.heap.size = bb at HC3 ⊢
      generalize hbz : wr.heap.size = bz at HC3
      clear hbb hbz q0 lq
      go_loopw [12] (fun i wx => ∃ t1 : Nat, t1 < n ∧ i = .int .i64 t1 ∧ Hid (toN f dd n (n - t1) t1 = t) ∧ Hid (CL w wx n A l.length c gu gf u f bb A2 c2 rl gd dd bz z2 of_)) (fun i _ => n - (intOf i).toNat)
      case atStart => exact ⟨0, by omega, rfl, HT, HC3⟩
      case round =>
        obtain ⟨t1, htlt, rfl, HT, HC⟩ := hrel
        have q0 := HC.out.ck.q0
        have lq := World.block_lt_of_cell? _ _ q0
        have hti : (t1 : Int) < (n : Int) := by omega
        have htx : (t1 : Int) < (x.length : Int) := by have := HX.out; omega
        have cf := HC.out.ck.rf.cell t1 (by have := HL.out; omega)
        have lf := HC.out.ck.rf.lt
        have cd := HC.out.rd.cell t1 (by have := HDL.out; omega)
        have ld := HC.out.rd.lt
        by_cases hft : gi f t1 ≤ 0
        · have HTG := Lib.hid (toN_go (d := dd) htlt (.inl hft))
          have hne : t1 + 1 < n := by
            refine Classical.byContradiction fun hh => ?_
            have h1 := HTG.out.symm.trans HT.out
            rw [show t1 + 1 = n by omega, toN_end] at h1
            omega
          have HNE := Lib.hid hne
          go_wp2
          go_roundw
          case rel => exact ⟨t1 + 1, HNE.out, by go_num, Lib.hid (by rw [← HTG.out]; exact HT.out), HC⟩
          case measure => simp [intOf]; omega
        · by_cases hdt : 1152921504606846976 ≤ gi dd t1
          · have HTG := Lib.hid (toN_go (f := f) htlt (.inr hdt))
            have hne : t1 + 1 < n := by
              refine Classical.byContradiction fun hh => ?_
              have h1 := HTG.out.symm.trans HT.out
              rw [show t1 + 1 = n by omega, toN_end] at h1
              omega
            have HNE := Lib.hid hne
            go_wp2
            go_roundw
            case rel => exact ⟨t1 + 1, HNE.out, by go_num, Lib.hid (by rw [← HTG.out]; exact HT.out), HC⟩
            case measure => simp [intOf]; omega
          · obtain rfl : t1 = t := (toN_stop (f := f) (d := dd) htlt (by omega)).symm.trans HT.out
            have bx0 := cell_of_heap HC.out.bx 0
            have bx1 := cell_of_heap HC.out.bx 1
            simp at bx0 bx1
            have lbx := World.block_lt_of_cell? _ _ bx0
            have hne : ((t1 : Int) == (n : Int)) = false := by simp; omega
            go_upto_region 15 with (go_at_call 106; refine (HBK.out A2 c2 _ HC.out.al).mono ?_; rintro e w4 ⟨vP, rfl, ho, hb⟩; have HC4 := Lib.hid (HC.out.ck.calls hb); obtain ⟨AP, cP, rfl, _, hnP, _⟩ := own_slice ho; have HO4 := Lib.hid ho; have HZ4 := Lib.hid (HC.out.oz.kept (row := none) ⟨hb.os, hb.tape, hb.output, hb.size, fun k hk _ => hb.block k hk⟩ (by cases z2.ownBlock <;> simp)); have HGU := Lib.hid (And.intro HC.out.ck.ru.lt HC.out.hz); clear hb ho hnP HBK; replace q0 := HC4.out.q0; clear cf cd lf ld bx0 bx1 lbx; replace lq := World.block_lt_of_cell? _ _ q0)
            obtain ⟨Az, cz, hz, _, _, _⟩ := own_slice HZ4.out
            subst hz
            have HP4 := Lib.hid (show CP w w4 n A l.length c gu gf u f AP Az P of_ from ⟨HC4.out, own_ints HO4.out, own_ints HZ4.out, apart_of HO4.out rfl HGU.out.1, apart_of HZ4.out rfl HGU.out.2⟩)
            clear HC4 HO4 HZ4 HGU HC HC3 q0 lq
            have cfv := HP4.out.ck.rf.cell v (by have := HL.out; omega)
            have cft := HP4.out.ck.rf.cell t1 (by have := HL.out; omega)
            have lf := HP4.out.ck.rf.lt
            have hPb : P.length ≤ 2000000 := Nat.le_trans HPM.out.2 HFF.out
            obtain ⟨k0, hk0⟩ : ∃ k0, (if gi f t1 < wrap64 (-gi f v) then gi f t1 else wrap64 (-gi f v)) = k0 := ⟨_, rfl⟩
            have HK0E := Lib.hid (show mn (wrap64 (0 - gi f v)) (gi f t1) = k0 by rw [Int.zero_sub]; exact hk0)
            go_quiet (fail)
            go_upto_region 17 with fail
            clear cfv cft lf hk0
            rw [HK0E.out] at HM
            go_loopw [14, 15] (fun kk i wx => ∃ j : Nat, j ≤ P.length ∧ i = .int .i64 j ∧ kk = .int .i64 ((P.take j).foldl (capC l u of_) k0) ∧ Hid (CP w wx n A l.length c gu gf u f AP Az P of_)) (fun _ i _ => P.length - (intOf i).toNat)
            case atStart => exact ⟨0, by omega, rfl, rfl, Lib.hid (HP4.out.drews _)⟩
            case round =>
              obtain ⟨j, hj, rfl, rfl, HP⟩ := hrel
              obtain ⟨kk, hkk⟩ : ∃ kk, (P.take j).foldl (capC l u of_) k0 = kk := ⟨_, rfl⟩
              rw [hkk]
              have HKK := Lib.hid hkk
              clear hkk
              have q1 := HP.out.ck.q1
              have lq := World.block_lt_of_cell? _ _ q1
              by_cases hjl : j < P.length
              · obtain ⟨bp, op, rfl, cp⟩ := HP.out.ip.nat j hjl
                have lp := World.block_lt_of_cell? _ _ cp
                obtain ⟨p0, p1⟩ := HPM.out.1 _ (gi_mem (l := P) (i := (j : Int)) (by omega) (by omega))
                have HFD := Lib.hid (fold_gi (capC l u of_) k0 P j hjl)
                generalize gi P j = q at cp p0 p1 HFD
                by_cases hq : (l.length : Int) ≤ q
                · have HE := Lib.hid (show capC l u of_ kk q = if gi u (gi of_ q) < kk then gi u (gi of_ q) else kk by unfold capC; rw [if_pos hq]; rfl)
                  obtain ⟨bz2, oz2, rfl, ccz⟩ := HP.out.iz q p0 (by have := HOL.out; omega)
                  obtain ⟨o0, o1⟩ := HOF.out q p0 p1
                  generalize gi of_ q = oq at ccz o0 o1 HE
                  have cu := HP.out.ck.ru.cell oq.toNat (by have := HL.out; omega)
                  simp only [show ((oq.toNat : Nat) : Int) = oq by omega] at cu
                  have lgu := HP.out.ck.ru.lt
                  have lz := World.block_lt_of_cell? _ _ ccz
                  have hofl : q < (of_.length : Int) := by have := HOL.out; omega
                  obtain ⟨c0, hc0⟩ : ∃ c0, (if gi u oq < kk then gi u oq else kk) = c0 := ⟨_, rfl⟩
                  rw [hc0] at HE
                  go_wp2
                  go_quiet (fail)
                  go_wp2
                  go_roundw
                  case rel => exact ⟨j + 1, by omega, by go_num, by rw [HFD.out, HKK.out, HE.out], Lib.hid (HP.out.drews _)⟩
                  case measure => simp [intOf]; omega
                · have HE := Lib.hid (show capC l u of_ kk q = kk by unfold capC; rw [if_neg hq])
                  go_wp2
                  go_quiet (fail)
                  go_wp2
                  go_roundw
                  case rel => exact ⟨j + 1, by omega, by go_num, by rw [HFD.out, HKK.out, HE.out], Lib.hid (HP.out.drews _)⟩
                  case measure => simp [intOf]; omega
              · obtain rfl : j = P.length := by omega
                have hkm : kk = m := by rw [← HKK.out, List.take_length]; exact HM.out.symm
                subst hkm
                clear HKK
                go_upto_region 22 with fail
                clear q1 lq
                go_loopw [16] (fun i wx => ∃ j : Nat, j ≤ P.length ∧ i = .int .i64 j ∧ Hid (CP w wx n A l.length c gu gf ((P.take j).foldl (moveC l of_ kk) u) f AP Az P of_)) (fun i _ => P.length - (intOf i).toNat)
                case atStart => exact ⟨0, by omega, rfl, HP⟩
                case round =>
                  obtain ⟨j, hj, rfl, HP⟩ := hrel
                  have HUL := Lib.hid (show ((P.take j).foldl (moveC l of_ kk) u).length = l.length by rw [foldM_len]; exact HL.out.1)
                  have q1 := HP.out.ck.q1
                  have lq := World.block_lt_of_cell? _ _ q1
                  by_cases hjl : j < P.length
                  · obtain ⟨bp, op, rfl, cp⟩ := HP.out.ip.nat j hjl
                    have lp := World.block_lt_of_cell? _ _ cp
                    obtain ⟨p0, p1⟩ := HPM.out.1 _ (gi_mem (l := P) (i := (j : Int)) (by omega) (by omega))
                    have HFD := Lib.hid (fold_gi (moveC l of_ kk) u P j hjl)
                    generalize (P.take j).foldl (moveC l of_ kk) u = u' at HP HUL HFD
                    generalize hqq : gi P j = q at cp p0 p1 HFD
                    have HQ := Lib.hid hqq
                    clear hqq
                    by_cases hq : (l.length : Int) ≤ q
                    · have HE := Lib.hid (show moveC l of_ kk u' q = si u' (gi of_ q) (wrap64 (gi u' (gi of_ q) - kk)) by unfold moveC; rw [if_pos hq])
                      go_wp2
                      go_quiet (fail)
                      go_wp2
                      obtain ⟨w2, hw2⟩ : ∃ w2, w2 = wr.drewN nq := ⟨_, rfl⟩
                      rw [← hw2]
                      have HP2 := Lib.hid (show CP w w2 n A l.length c gu gf u' f (some ⟨bp, op, none⟩) Az P of_ by rw [hw2]; exact HP.out.drews _)
                      clear hw2 cp lp q1 lq
                      obtain ⟨bp2, op2, e2, cp⟩ := HP2.out.ip.nat j hjl
                      cases e2
                      rw [HQ.out] at cp
                      have lp := World.block_lt_of_cell? _ _ cp
                      obtain ⟨bz2, oz2, rfl, ccz⟩ := HP2.out.iz q p0 (by have := HOL.out; omega)
                      obtain ⟨o0, o1⟩ := HOF.out q p0 p1
                      generalize gi of_ q = oq at ccz o0 o1 HE
                      have cu := HP2.out.ck.ru.cell oq.toNat (by have := HUL.out; omega)
                      have fu := HP2.out.ck.ru.frozen oq.toNat
                      simp only [show ((oq.toNat : Nat) : Int) = oq by omega] at cu
                      have lgu := HP2.out.ck.ru.lt
                      have lz := World.block_lt_of_cell? _ _ ccz
                      have hofl : q < (of_.length : Int) := by have := HOL.out; omega
                      go_still_tail 21, (by kernel_rfl)
                      go_wp2
                      go_roundw
                      case rel => exact ⟨j + 1, by omega, by go_num, Lib.hid (by rw [HFD.out, HE.out]; exact (HP2.out.setu _ _).drew)⟩
                      case measure => simp [intOf]; omega
                    · have HE := Lib.hid (show moveC l of_ kk u' q = si u' q (wrap64 (gi u' q + kk)) by unfold moveC; rw [if_neg hq])
                      go_wp2
                      go_quiet (fail)
                      go_wp2
                      obtain ⟨w2, hw2⟩ : ∃ w2, w2 = wr.drewN nq := ⟨_, rfl⟩
                      rw [← hw2]
                      have HP2 := Lib.hid (show CP w w2 n A l.length c gu gf u' f (some ⟨bp, op, none⟩) Az P of_ by rw [hw2]; exact HP.out.drews _)
                      clear hw2 cp lp q1 lq
                      obtain ⟨bp2, op2, e2, cp⟩ := HP2.out.ip.nat j hjl
                      cases e2
                      rw [HQ.out] at cp
                      have lp := World.block_lt_of_cell? _ _ cp
                      have cu := HP2.out.ck.ru.cell q.toNat (by have := HUL.out; omega)
                      have fu := HP2.out.ck.ru.frozen q.toNat
                      simp only [show ((q.toNat : Nat) : Int) = q by omega] at cu
                      have lgu := HP2.out.ck.ru.lt
                      have hql : q < (l.length : Int) := by omega
                      go_still_tail 15, (by kernel_rfl)
                      go_wp2
                      go_roundw
                      case rel => exact ⟨j + 1, by omega, by go_num, Lib.hid (by rw [HFD.out, HE.out]; exact (HP2.out.setu _ _).drew)⟩
                      case measure => simp [intOf]; omega
                  · obtain rfl : j = P.length := by omega
                    rw [List.take_length] at HP HUL
                    have cfv := HP.out.ck.rf.cell v (by have := HL.out; omega)
                    have ffv := HP.out.ck.rf.frozen v
                    have lf := HP.out.ck.rf.lt
                    go_upto_region 28 with fail
                    obtain ⟨w5, hw5⟩ : ∃ w5, w5 = wr.setCell ⟨gf, v, none⟩ (.int .i64 (wrap64 (gi f v + kk))) := ⟨_, rfl⟩
                    rw [← hw5]
                    have HK5 := Lib.hid (show CK w w5 n A l.length c gu gf (P.foldl (moveC l of_ kk) u) f1 by rw [hw5, HF1.out]; exact HP.out.ck.setf v _)
                    have HF1L := Lib.hid (show f1.length = n by rw [HF1.out]; simp [si]; exact HL.out.2)
                    clear hw5 cfv ffv lf q1 lq
                    have cft := HK5.out.rf.cell t1 (by have := HF1L.out; omega)
                    have fft := HK5.out.rf.frozen t1
                    have lf := HK5.out.rf.lt
                    go_wp2
                    go_roundg gk'
                    case measure => omega
                    case rel => exact ⟨v, _, _, rfl, hv, HN, Lib.hid (HK5.out.setf t1 _), Lib.hid ⟨HUL.out, by simp [si]; exact HF1L.out⟩⟩
end Go.Proofs.Ytmhiiomejopaoaa
