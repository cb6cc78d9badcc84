/- The flow walks: Needed as one word; Core. -/
import Derived.Test.YtmhiiomejopaoaaGreatDoorM5
namespace Go.Proofs.YtmhiiomejopaoaaGreatDoor
set_option linter.all false
set_option maxRecDepth 100000
open Go.RowKit

theorem needed_any (F : Nat) (r : List Int × Int) (n : Int) (A : Option Addr) (c : Nat) (l : List Lk) (B : Option Addr) (d : Nat) (x : List Int) (w : World) (hl : l.length ≤ 1000) (hx : x.length ≤ 1000000) (h : LksAt w A l) (h' : IntsAt w B x) (hb : neededP F n l x = some r) :
    Calls Tryz.prog 19 #[.agg #[.int .i64 n, .slice A l.length c], .slice B x.length d] w fun e w' => ∃ v, e = .returned (.tuple #[v, .int .i64 r.2]) ∧ IntsV w' v r.1 ∧ Below w.heap.size w w' := by
  unfold neededP at hb
  cases hp : proveP F n l x with
  | none => rw [hp] at hb; cases hb
  | some s =>
    rw [hp] at hb
    simp only at hb
    have hq := prove_any F s n A c l B d x (w.alloc (.cells #[.int .i64 n, .slice A l.length c] 24)) hl hx (h.alloc _) (h'.alloc _) hp
    by_cases h0 : s.2 = 0
    · rw [if_pos h0] at hb
      obtain ⟨o, ho, rfl⟩ := Option.map_eq_some_iff.1 hb
      obtain ⟨hok, hw, _, hu⟩ := prove_ok hp h0
      have hcast : ((n.toNat : Nat) : Int) = n := by have := hok.n1; omega
      have hwl := weights_len hw
      rw [h0] at hq
      have hy := needed_yes F s.1 o n.toNat A c l B d x w (by have := hok.n1; omega) (by have := hok.n2; omega) hl hu (by omega) h h' (by rw [hcast]; exact fun k hk => (hok.lk k hk).1) (by rw [hcast]; exact hq) ho
      rw [hcast] at hy
      exact hy
    · rw [if_neg h0] at hb
      cases hb
      exact (needed_no s n A c l.length _ w h0 hq).mono fun e w' he => ⟨_, he.1, IntsV.nil _, he.2⟩

def coreGo (F : Nat) (n : Nat) (l : List Lk) (x : List Int) (sum : Int) : Nat → List Int → List Int → Option (List Int × List Int)
  | 0, u, g => some (u, g)
  | k + 1, u, g =>
    if gi u k == 0 then coreGo F n l x sum k u (putS g k)
    else match bestP F n (keptL l (notIn (putS g k))) x with
      | none => none
      | some r => if (lacksR l sum (putS g k) r).2 then coreGo F n l x sum k (lacksR l sum (putS g k) r).1 (putS g k) else coreGo F n l x sum k u ((putS g k).erase k)
theorem coreGo_cases {F n : Nat} {l : List Lk} {x : List Int} {sum : Int} {k : Nat} {u g : List Int} {fin : List Int × List Int} (h : coreGo F n l x sum (k + 1) u g = some fin) (j : Int) (hj : (k : Int) = j) :
    ((gi u j == 0) = true ∧ coreGo F n l x sum k u (putS g j) = some fin) ∨
    ((gi u j == 0) = false ∧ ∃ r, bestP F n (keptL l (notIn (putS g j))) x = some r ∧
      (((lacksR l sum (putS g j) r).2 = true ∧ coreGo F n l x sum k (lacksR l sum (putS g j) r).1 (putS g j) = some fin) ∨
       ((lacksR l sum (putS g j) r).2 = false ∧ coreGo F n l x sum k u ((putS g j).erase j) = some fin))) := by
  subst hj
  unfold coreGo at h
  cases h1 : (gi u k == 0)
  · rw [h1] at h
    simp only [Bool.false_eq_true, if_false] at h
    right
    refine ⟨rfl, ?_⟩
    cases h2 : bestP F n (keptL l (notIn (putS g k))) x with
    | none => rw [h2] at h; cases h
    | some r =>
      rw [h2] at h
      simp only at h
      refine ⟨r, rfl, ?_⟩
      cases h3 : (lacksR l sum (putS g k) r).2
      · rw [h3] at h; exact .inr ⟨rfl, by simpa using h⟩
      · rw [h3] at h; exact .inl ⟨rfl, by simpa using h⟩
  · rw [h1] at h
    exact .inl ⟨rfl, by simpa using h⟩
def coreP (F : Nat) (n : Int) (l : List Lk) (x : List Int) : Option (List Int × Int) :=
  match proveP F n l x with
  | none => none
  | some r => if r.2 = 0 then (coreGo F n.toNat l x (costI l r.1) l.length r.1 []).map (fun o => (idxN o.2 l.length, 0)) else some ([], r.2)
theorem lacksR_len {l : List Lk} {sum : Int} {S : List Int} {r : List Int × Int} (h : (lacksR l sum S r).2 = true) : (lacksR l sum S r).1.length = l.length := by
  unfold lacksR at h ⊢
  split
  · rw [scatN_length, List.length_replicate]
  · rename_i h1
    rw [if_neg h1] at h
    cases h
theorem MapI.nocell {w : World} {mb o : Nat} {m : List (Int × Value)} (h : MapI w mb m) : w.cell? ⟨mb, o, none⟩ = none := by
  obtain ⟨es, cl, hb, _⟩ := h
  simp [World.cell?, hb]
theorem IntsAt.apartM {w : World} {A : Option Addr} {l : List Int} {mb : Nat} {m : List (Int × Value)} (h : IntsAt w A l) (hm : MapI w mb m) : Apart A l.length (some mb) := by
  intro ad e h0 e2
  obtain ⟨b, o, e3, h1⟩ := h.nat 0 h0
  rw [e] at e3
  cases e3
  cases e2
  rw [hm.nocell] at h1
  cases h1
theorem LksAt.apartM {w : World} {A : Option Addr} {l : List Lk} {mb : Nat} {m : List (Int × Value)} (h : LksAt w A l) (hm : MapI w mb m) : Apart A l.length (some mb) := by
  intro ad e h0 e2
  obtain ⟨b, o, e3, h1, _⟩ := h.nat 0 h0
  rw [e] at e3
  cases e3
  cases e2
  rw [hm.nocell] at h1
  cases h1
set_option maxRecDepth 100000 in
set_option maxHeartbeats 4000000 in
theorem core_no (r : List Int × Int) (n : Int) (A : Option Addr) (c m : Nat) (b : Value) (w : World) (h0 : ¬ r.2 = 0) (HP : Calls Tryz.prog 41 #[.agg #[.int .i64 n, .slice A m c], b] (w.alloc (.cells #[.int .i64 n, .slice A m c] 24)) fun e w' => ∃ v, e = .returned (.tuple #[v, .int .i64 r.2]) ∧ IntsV w' v r.1 ∧ Below (w.alloc (.cells #[.int .i64 n, .slice A m c] 24)).heap.size (w.alloc (.cells #[.int .i64 n, .slice A m c] 24)) w') :
    Calls Tryz.prog 20 #[.agg #[.int .i64 n, .slice A m c], b] w fun e w' => e = .returned (.tuple #[.slice none 0 0, .int .i64 r.2]) ∧ Below w.heap.size w w' := by
  have HPP := Lib.hid HP
  have hc' : (r.2 != 0) = true := by simpa using h0
  clear HP h0
  go_enter Tryz.func20, Tryz.ntmps20
  go_wp2_with (go_at_call 41; refine HPP.out.mono ?_; rintro e w1 ⟨v, rfl, hv, hb⟩; have HB := Lib.hid (boxed hb).1; clear hb hv)
  go_ret2
  exact ⟨rfl, HB.out⟩
structure CoreW (w2 wr : World) (mb : Nat) (uv : Value) (u g : List Int) (m : Nat) : Prop where
  vals : IntsV wr uv u
  len : u.length = m
  map : MapI wr mb (setI g)
  grown : w2.grownBy wr (some mb)
theorem CoreW.put {w2 wr w' : World} {mb : Nat} {uv : Value} {u g g' : List Int} {m : Nat} (h : CoreW w2 wr mb uv u g m) (hm : MapI w' mb (setI g')) (hg : wr.grownBy w' (some mb)) : CoreW w2 w' mb uv u g' m := by
  obtain ⟨A, c, e, h1, h2⟩ := h.vals
  exact ⟨⟨A, c, e, h1.grown hg (h1.apartM h.map), h2⟩, h.len, hm, h.grown.trans hg⟩
theorem CoreW.step {w2 wr w' : World} {mb : Nat} {uv : Value} {u g : List Int} {m : Nat} (h : CoreW w2 wr mb uv u g m) (hb : Below wr.heap.size wr w') : CoreW w2 w' mb uv u g m :=
  ⟨h.vals.below hb, h.len, h.map.below hb, grown_below h.grown hb⟩
set_option maxRecDepth 100000 in
set_option maxHeartbeats 4000000 in
theorem core_yes (F : Nat) (u : List Int) (fin : List Int × List Int) (n : Nat) (A : Option Addr) (c : Nat) (l : List Lk) (B : Option Addr) (d : Nat) (x : List Int) (w : World) (hn0 : 0 < n) (hn : n ≤ 1000) (hl : l.length ≤ 1000) (hu : u.length = l.length) (hx : x.length = n) (h : LksAt w A l) (h' : IntsAt w B x) (hr : ∀ k ∈ l, InR n k)
    (HP : Calls Tryz.prog 41 #[.agg #[.int .i64 n, .slice A l.length c], .slice B x.length d] (w.alloc (.cells #[.int .i64 n, .slice A l.length c] 24)) fun e w' => ∃ v, e = .returned (.tuple #[v, .int .i64 0]) ∧ IntsV w' v u ∧ Below (w.alloc (.cells #[.int .i64 n, .slice A l.length c] 24)).heap.size (w.alloc (.cells #[.int .i64 n, .slice A l.length c] 24)) w')
    (ho : coreGo F n l x (costI l u) l.length u [] = some fin) :
    Calls Tryz.prog 20 #[.agg #[.int .i64 n, .slice A l.length c], .slice B x.length d] w fun e w' => ∃ v, e = .returned (.tuple #[v, .int .i64 0]) ∧ IntsV w' v (idxN fin.2 l.length) ∧ Below w.heap.size w w' := by
  have HA := Lib.hid h
  have HX := Lib.hid h'
  have HU := Lib.hid hu
  have HR := Lib.hid hr
  have HPP := Lib.hid HP
  have HO := Lib.hid ho
  have HXN := Lib.hid hx
  have hmm := @run_makeMap Tryz.prog
  clear h h' hr HP hu ho hx
  generalize hsum : costI l u = sum at *
  have HSUM := Lib.hid hsum
  clear hsum
  go_enter Tryz.func20, Tryz.ntmps20
  go_wp2_with (first | (go_at_call 41; refine HPP.out.mono ?_; rintro e w1 ⟨v, rfl, ⟨A3, c3, rfl, hv, hvn⟩, hb⟩; have HB := Lib.hid (boxed hb).1; obtain ⟨q0, q1, lw⟩ := (boxed hb).2; have HV := Lib.hid hv; have HVN := Lib.hid hvn; clear hb hv hvn) | (go_at_call 43; refine (cost_any n A c l A3 c3 u _ (by omega) HU.out (HA.out.below HB.out) HV.out).mono ?_; rw [HSUM.out]; rintro e w2 ⟨rfl, hb2⟩; have HB2 := Lib.hid (below_trans HB.out hb2); have HV2 := Lib.hid (HV.out.below hb2); have q0 := cell_below hb2 q0; have q1 := cell_below hb2 q1; have lw := World.block_lt_of_cell? _ _ q1; clear hb2))
  obtain ⟨W3, hW3⟩ : ∃ W3, W3 = w2.alloc (.map #[] 0) := ⟨_, rfl⟩
  rw [← hW3]
  have HW2 := Lib.hid (show W3.cell? ⟨w.heap.size, 0, none⟩ = some (.int .i64 n) ∧ W3.cell? ⟨w.heap.size, 1, none⟩ = some (.slice A l.length c) by rw [hW3]; exact ⟨cell_alloc _ q0, cell_alloc _ q1⟩)
  have hb3 : Below w.heap.size w W3 := by rw [hW3]; exact HB2.out.alloc HB2.out.size _
  have HB3 := Lib.hid hb3
  have HA3 := Lib.hid (HA.out.below hb3)
  have HX3 := Lib.hid (HX.out.below hb3)
  have HM3 := Lib.hid (show MapI W3 w2.heap.size (setI []) by rw [hW3]; exact MapI.made _)
  have HC3 := Lib.hid (show CoreW W3 W3 w2.heap.size (.slice A3 u.length c3) u [] l.length from ⟨⟨A3, c3, rfl, by rw [hW3]; exact HV2.out.alloc _, HVN.out⟩, HU.out, HM3.out, grown_refl _ _⟩)
  generalize hmb : w2.heap.size = mb at *
  have HMB := Lib.hid (show w.heap.size < mb from lw)
  clear q0 q1 hW3 hb3 hmb lw
  go_loopw [6, 10, 11, 12] (fun uv iv _ _ wr => ∃ (k : Nat) (j : Int) (u' g : List Int), -1 ≤ j ∧ j < (l.length : Int) ∧ iv = .int .i64 j ∧ Hid ((k : Int) = j + 1) ∧ Hid (coreGo F n l x sum k u' g = some fin) ∧ Hid (CoreW W3 wr mb uv u' g l.length)) (fun _ iv _ _ _ => (intOf iv + 1).toNat)
  case atStart => exact ⟨l.length, (l.length : Int) - 1, u, [], by omega, by omega, rfl, Lib.hid (by omega), HO, HC3⟩
  case round =>
    obtain ⟨k, j, u', g, hj1, hj2, rfl, HKJ, HK, HW⟩ := hrel
    by_cases hj0 : 0 ≤ j
    · obtain ⟨k', hk'⟩ : ∃ k', k = k' + 1 := ⟨k - 1, by have := HKJ.out; omega⟩
      subst hk'
      have hkj : (k' : Int) = j := by have := HKJ.out; omega
      have HKJ2 := Lib.hid (show (k' : Int) = (j - 1) + 1 by omega)
      have hcs := coreGo_cases HK.out j hkj
      clear hkj
      obtain ⟨A4, c4, hu4, hv4, hv4n⟩ := HW.out.vals
      subst hu4
      have HV4 := Lib.hid hv4
      have HUL := Lib.hid HW.out.len
      have hap := hv4.apartM HW.out.map
      have HAP := Lib.hid hap
      have hul : (u'.length : Int) = l.length := by rw [HUL.out]
      obtain ⟨b5, o5, rfl, g1⟩ := hv4 j hj0 (by omega)
      have HNE := Lib.hid (hap ⟨b5, o5, none⟩ rfl (by omega))
      have lb5 := World.block_lt_of_cell? _ _ g1
      clear hv4 hv4n hap
      have HNB := Lib.hid (show some (⟨w.heap.size, 0, none⟩ : Addr).block ≠ some mb from fun e => by have := HMB.out; have := Option.some.inj e; dsimp only at this; omega)
      have q0 := HW.out.grown.cell HW2.out.1 (fun e => by have := HMB.out; have := Option.some.inj e; dsimp only at this; omega)
      have q1 := HW.out.grown.cell HW2.out.2 (fun e => by have := HMB.out; have := Option.some.inj e; dsimp only at this; omega)
      rcases hcs with ⟨hy0, hgo⟩ | ⟨hy0, r, hbp, hcs⟩
      · have HGO := Lib.hid hgo
        clear hgo
        go_wp2_with (at_mapUpdate; refine map_store (b := mb) (m := setI g) rfl _ _ _ 77 4 (.inl rfl) Tryz.underlying77 j (.bool true) rfl rfl rfl HW.out.map ?_; intro w5 hm5 hg5; dsimp only [Act.put]; rw [put_set] at hm5; have HW5 := Lib.hid (HW.out.put hm5 hg5); have g1 := hg5.cell g1 HNE.out; have lb5 := World.block_lt_of_cell? _ _ g1; have q0 := hg5.cell q0 HNB.out; have q1 := hg5.cell q1 HNB.out; have lq := World.block_lt_of_cell? _ _ q0; clear hm5 hg5)
        go_roundw
        case rel => exact ⟨k', j - 1, u', putS g j, by omega, by omega, rfl, HKJ2, HGO, HW5⟩
        case measure => simp [intOf]; omega
      · have HBP := Lib.hid hbp
        clear hbp
        have HLK := Lib.hid (fun mb W h1 h2 h3 => lacks_any F r n A c l B d x sum mb (putS g j) W hn0 (by omega) hl HXN.out h1 h2 h3 HR.out HBP.out)
        rcases hcs with ⟨hsame, hgo⟩ | ⟨hsame, hgo⟩
        · have HLL := Lib.hid (lacksR_len hsame)
          have HGO := Lib.hid hgo
          rw [hsame] at HLK
          clear hgo hsame
          go_wp2_with (first | (at_mapUpdate; refine map_store (b := mb) (m := setI g) rfl _ _ _ 77 4 (.inl rfl) Tryz.underlying77 j (.bool true) rfl rfl rfl HW.out.map ?_; intro w5 hm5 hg5; dsimp only [Act.put]; rw [put_set] at hm5; have HW5 := Lib.hid (HW.out.put hm5 hg5); have g1 := hg5.cell g1 HNE.out; have lb5 := World.block_lt_of_cell? _ _ g1; have q0 := hg5.cell q0 HNB.out; have q1 := hg5.cell q1 HNB.out; have lq := World.block_lt_of_cell? _ _ q0; clear hm5 hg5) | (go_at_call 44; refine (HLK.out mb w5 (HA3.out.grown HW5.out.grown (HA3.out.apartM HM3.out)) (HX3.out.grown HW5.out.grown (HX3.out.apartM HM3.out)) HW5.out.map).mono ?_; rintro e w6 ⟨v, rfl, hv, hb6⟩; have HV6 := Lib.hid hv; have HW6 := Lib.hid (HW5.out.step hb6); clear hv hb6))
          go_roundw
          case rel => exact ⟨k', j - 1, _, putS g j, by omega, by omega, rfl, HKJ2, HGO, Lib.hid ⟨HV6.out, HLL.out, HW6.out.map, HW6.out.grown⟩⟩
          case measure => simp [intOf]; omega
        · have HGO := Lib.hid hgo
          rw [hsame] at HLK
          clear hgo hsame
          go_wp2_with (first | (at_mapUpdate; refine map_store (b := mb) (m := setI g) rfl _ _ _ 77 4 (.inl rfl) Tryz.underlying77 j (.bool true) rfl rfl rfl HW.out.map ?_; intro w5 hm5 hg5; dsimp only [Act.put]; rw [put_set] at hm5; have HW5 := Lib.hid (HW.out.put hm5 hg5); have g1 := hg5.cell g1 HNE.out; have lb5 := World.block_lt_of_cell? _ _ g1; have q0 := hg5.cell q0 HNB.out; have q1 := hg5.cell q1 HNB.out; have lq := World.block_lt_of_cell? _ _ q0; clear hm5 hg5) | (go_at_call 44; refine (HLK.out mb w5 (HA3.out.grown HW5.out.grown (HA3.out.apartM HM3.out)) (HX3.out.grown HW5.out.grown (HX3.out.apartM HM3.out)) HW5.out.map).mono ?_; rintro e w6 ⟨v, rfl, hv, hb6⟩; have HV6 := Lib.hid hv; have HW6 := Lib.hid (HW5.out.step hb6); clear hv hb6) | (refine map_delete (b := mb) (m := setI (putS g j)) rfl _ _ 77 4 rfl Tryz.underlying77 j rfl rfl HW6.out.map ?_; intro w7 hm7 hg7; dsimp only [Act.put]; rw [del_set] at hm7; have HW7 := Lib.hid (HW6.out.put hm7 hg7); clear hm7 hg7))
          go_roundw
          case rel => exact ⟨k', j - 1, u', (putS g j).erase j, by omega, by omega, rfl, HKJ2, HGO, HW7⟩
          case measure => simp [intOf]; omega
    · obtain rfl : j = -1 := by omega
      have hk0 : k = 0 := by have := HKJ.out; omega
      subst hk0
      have hfin : fin = (u', g) := (Option.some.inj HK.out).symm
      have HFIN := Lib.hid hfin
      clear hfin
      have HNB := Lib.hid (show some (⟨w.heap.size, 0, none⟩ : Addr).block ≠ some mb from fun e => by have := HMB.out; have := Option.some.inj e; dsimp only at this; omega)
      have q1 := HW.out.grown.cell HW2.out.2 HNB.out
      have lq := World.block_lt_of_cell? _ _ q1
      have HB4 := Lib.hid (below_of_grown HB3.out HW.out.grown HB3.out.size (by have := HMB.out; omega))
      have HMR := Lib.hid HW.out.map
      clear hj0 hj1 hj2 HKJ HK HW
      go_upto_region 17 with fail
      obtain ⟨w8, hw8⟩ : ∃ w8, w8 = wr := ⟨_, rfl⟩
      have HMR8 := Lib.hid (show MapI w8 mb (setI g) by rw [hw8]; exact HMR.out)
      have HB8 := Lib.hid (show Below w.heap.size w w8 by rw [hw8]; exact HB4.out)
      rw [← hw8]
      clear q1 lq HMR HB4 hw8
      go_loopw [13, 14, 58] (fun v _ i wr => ∃ k : Nat, k ≤ l.length ∧ i = .int .i64 k ∧ Hid (OwnN w8.heap.size w8 wr v (idxN g k))) (fun _ _ i _ => l.length - (intOf i).toNat)
      case atStart => exact ⟨0, by omega, rfl, Lib.hid ⟨World.ownsRow_nil _ _ _ _, Below.refl _ _, Nat.le_refl _⟩⟩
      case round =>
        obtain ⟨k, hk, rfl, HZ⟩ := hrel
        have hlk := (HMR8.out.below HZ.out.below).look u80 (zero4 _) k
        rw [look_set] at hlk
        by_cases hlt : k < l.length
        · have hkl := idxN_len g k
          cases hS : g.contains (k : Int)
          · rw [hS] at hlk
            have Hs := Lib.hid (show idxN g (k + 1) = idxN g k ++ [(k : Int)] by simp only [idxN, hS]; rfl)
            clear hS
            go_wp2_with (at_builtin; refine app_one rfl _ _ 38 3 (.int .i64 0) 1 8 rfl Tryz.underlying38 info3 rfl (by omega) u13 _ _ [.int .i64 k] rfl rfl rfl rfl (one1 _ _) w8.heap.size HZ.out.row HZ.out.hB (by omega) (by unfold maxLen; omega) ?_; intro v1 w9 ho hg _; have HG := Lib.hid hg; have HO3 := Lib.hid ho; clear ho hg)
            go_roundw
            case rel => exact ⟨k + 1, by omega, by go_num, Lib.hid (by rw [Hs.out]; exact HZ.out.appended HO3.out HG.out)⟩
            case measure => simp [intOf]; omega
          · rw [hS] at hlk
            have Hs := Lib.hid (show idxN g (k + 1) = idxN g k by simp only [idxN, hS]; rfl)
            clear hS
            go_wp2
            go_roundw
            case rel => exact ⟨k + 1, by omega, by go_num, Lib.hid (by rw [Hs.out]; exact HZ.out)⟩
            case measure => simp [intOf]; omega
        · obtain rfl : k = l.length := by omega
          clear hlk
          go_wp2
          go_ret2
          exact ⟨_, rfl, by rw [HFIN.out]; exact own_intsV HZ.out.row, below_trans HB8.out HZ.out.below⟩
theorem core_any (F : Nat) (r : List Int × Int) (n : Int) (A : Option Addr) (c : Nat) (l : List Lk) (B : Option Addr) (d : Nat) (x : List Int) (w : World) (hl : l.length ≤ 1000) (hx : x.length ≤ 1000000) (h : LksAt w A l) (h' : IntsAt w B x) (hb : coreP F n l x = some r) :
    Calls Tryz.prog 20 #[.agg #[.int .i64 n, .slice A l.length c], .slice B x.length d] w fun e w' => ∃ v, e = .returned (.tuple #[v, .int .i64 r.2]) ∧ IntsV w' v r.1 ∧ Below w.heap.size w w' := by
  unfold coreP at hb
  cases hp : proveP F n l x with
  | none => rw [hp] at hb; cases hb
  | some s =>
    rw [hp] at hb
    simp only at hb
    have hq := prove_any F s n A c l B d x (w.alloc (.cells #[.int .i64 n, .slice A l.length c] 24)) hl hx (h.alloc _) (h'.alloc _) hp
    by_cases h0 : s.2 = 0
    · rw [if_pos h0] at hb
      obtain ⟨o, ho, rfl⟩ := Option.map_eq_some_iff.1 hb
      obtain ⟨hok, hw, _, hu⟩ := prove_ok hp h0
      have hcast : ((n.toNat : Nat) : Int) = n := by have := hok.n1; omega
      have hwl := weights_len hw
      rw [h0] at hq
      have hy := core_yes F s.1 o n.toNat A c l B d x w (by have := hok.n1; omega) (by have := hok.n2; omega) hl hu (by omega) h h' (by rw [hcast]; exact fun k hk => (hok.lk k hk).1) (by rw [hcast]; exact hq) ho
      rw [hcast] at hy
      exact hy
    · rw [if_neg h0] at hb
      cases hb
      exact (core_no s n A c l.length _ w h0 hq).mono fun e w' he => ⟨_, he.1, IntsV.nil _, he.2⟩
end Go.Proofs.YtmhiiomejopaoaaGreatDoor
