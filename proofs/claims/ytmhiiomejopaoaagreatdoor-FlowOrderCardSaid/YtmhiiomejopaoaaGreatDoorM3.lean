/- The flow walks: lacks. -/
import Derived.Test.YtmhiiomejopaoaaGreatDoorM1
namespace Go.Proofs.YtmhiiomejopaoaaGreatDoor
set_option linter.all false
set_option maxRecDepth 100000
open Go.RowKit

def keptN (l : List Lk) (p : Int → Bool) : Nat → List Lk
  | 0 => []
  | k + 1 => if p k then keptN l p k ++ [gl l k] else keptN l p k
def keptL (l : List Lk) (p : Int → Bool) : List Lk := keptN l p l.length
theorem keptN_len (l : List Lk) (p : Int → Bool) : ∀ k, (keptN l p k).length ≤ k
  | 0 => Nat.le_refl _
  | k + 1 => by
    have := keptN_len l p k
    unfold keptN
    split
    · simp; omega
    · omega
theorem keptN_mem (l : List Lk) (p : Int → Bool) : ∀ k, k ≤ l.length → ∀ x ∈ keptN l p k, x ∈ l
  | 0, _, x, h => by simp [keptN] at h
  | k + 1, hk, x, h => by
    unfold keptN at h
    split at h
    · rcases List.mem_append.1 h with h | h
      · exact keptN_mem l p k (by omega) x h
      · obtain rfl := List.mem_singleton.1 h
        exact gl_mem (by omega) (by omega)
    · exact keptN_mem l p k (by omega) x h
theorem keptL_mem {l : List Lk} {p : Int → Bool} {x : Lk} (h : x ∈ keptL l p) : x ∈ l := keptN_mem l p _ (Nat.le_refl _) x h
theorem keptL_len (l : List Lk) (p : Int → Bool) : (keptL l p).length ≤ l.length := keptN_len l p _
/-- What a test of an index owes. -/
def TestsIdx (fn : FuncId) (cap : Array Value) (p : Int → Bool) (n : Nat) (w : World) : Prop :=
  ∀ (i : Nat) (W : World), i < n → Below w.heap.size w W → Calls Tryz.prog fn (#[.int .i64 i] ++ cap) W fun e W' => e = .returned (.bool (p i)) ∧ Below W.heap.size W W'
set_option maxRecDepth 100000 in
set_option maxHeartbeats 1000000 in
theorem kept_any (fn : FuncId) (cap : Array Value) (p : Int → Bool) (A : Option Addr) (c : Nat) (l : List Lk) (w : World) (hl : l.length ≤ 400000) (h : LksAt w A l) (hcf : ∀ args w, (callFunc fn args).run Tryz.prog w = .ok (.enter fn args) w) (HC : TestsIdx fn cap p l.length w) :
    Calls Tryz.prog 66 #[.slice A l.length c, .func (.func fn) #[] cap] w fun e w' => ∃ v, e = .returned v ∧ w'.ownsRow w.heap.size 51 3 v (keptL l p).length (lkcs (keptL l p)) ∧ Below w.heap.size w w' := by
  have H := Lib.hid h
  have HT := Lib.hid HC
  clear h HC
  go_enter Tryz.func66, Tryz.ntmps66
  go_wp2
  go_loopw [5, 6, 7, 10] (fun v _ _ i wr => ∃ k : Nat, k ≤ l.length ∧ i = .int .i64 k ∧ Hid (OwnL w.heap.size w wr v (keptN l p k))) (fun _ _ _ i _ => l.length - (intOf i).toNat)
  case atStart => exact ⟨0, by omega, rfl, Lib.hid ⟨World.ownsRow_nil _ _ _ _, Below.refl _ _, Nat.le_refl _⟩⟩
  case round =>
    obtain ⟨k, hk, rfl, HZ⟩ := hrel
    by_cases hlt : k < l.length
    · obtain ⟨b, o, rfl, g1, g2, g3⟩ := (H.out.below HZ.out.below).nat k hlt
      have Hk := Lib.hid (keptN_len l p k)
      generalize hq : gl l k = q at *
      have HQ := Lib.hid hq
      clear hq
      have hbl := HZ.out.below.alloc HZ.out.hB (.cells #[.int .i64 q.a, .int .i64 q.b, .int .i64 q.m] 51)
      have hc := HT.out k _ hlt hbl
      cases hp : p k
      · rw [hp] at hc
        have HC := Lib.hid hc
        have Hs := Lib.hid (show keptN l p (k + 1) = keptN l p k by simp [keptN, hp])
        clear hc hp hbl
        go_wp2_with fail
        refine HC.out.mono ?_
        rintro e w1 ⟨rfl, hb⟩
        have HB := Lib.hid hb
        clear hb
        go_wp2
        go_roundw
        case rel => exact ⟨k + 1, by omega, by go_num, Lib.hid (by rw [Hs.out]; exact (HZ.out.alloc _).calls HB.out)⟩
        case measure => simp [intOf]; omega
      · rw [hp] at hc
        have HC := Lib.hid hc
        have Hs := Lib.hid (show keptN l p (k + 1) = keptN l p k ++ [q] by simp [keptN, hp, HQ.out])
        clear hc hp hbl
        go_wp2_with fail
        refine HC.out.mono ?_
        rintro e w1 ⟨rfl, hb⟩
        have HB := Lib.hid hb
        have e0 : w1.cell? ⟨wr.heap.size, 0, none⟩ = some (.int .i64 q.a) := cell_below hb (by go_simp)
        have e1 : w1.cell? ⟨wr.heap.size, 1, none⟩ = some (.int .i64 q.b) := cell_below hb (by go_simp)
        have e2 : w1.cell? ⟨wr.heap.size, 2, none⟩ = some (.int .i64 q.m) := cell_below hb (by go_simp)
        have hsz := hb.size
        simp at hsz
        clear hb
        have HZ2 := Lib.hid ((HZ.out.alloc (.cells #[.int .i64 q.a, .int .i64 q.b, .int .i64 q.m] 51)).calls HB.out)
        go_wp2_with (at_builtin; refine app_one rfl _ _ 22 51 (.agg #[.int .i64 0, .int .i64 0, .int .i64 0]) 3 24 rfl Tryz.underlying22 info39 rfl (by omega) u5 _ _ (lkc ⟨q.a, q.b, q.m⟩) rfl rfl rfl rfl (lk_one _) w.heap.size HZ2.out.row HZ2.out.hB (by have := Hk.out; omega) (by have := Hk.out; unfold maxLen; omega) ?_; intro v1 w2 ho hg _; have HG := Lib.hid hg; have HO3 := Lib.hid ho; clear ho hg)
        go_roundw
        case rel => exact ⟨k + 1, by omega, by go_num, Lib.hid (by rw [Hs.out]; exact HZ2.out.appended HO3.out HG.out)⟩
        case measure => simp [intOf]; omega
    · obtain rfl : k = l.length := by omega
      go_wp2
      go_ret
      exact ⟨_, rfl, HZ.out.row, HZ.out.below⟩
theorem u80 : Tryz.prog.underlying 77 = some (.map 3 4) := Tryz.underlying77
theorem zero4 (w : World) : (zeroValue 4).run Tryz.prog w = .ok (.bool false) w := by kernel_rfl
theorem cf105 : ∀ args w, (callFunc 67 args).run Tryz.prog w = .ok (.enter 67 args) w := fun _ _ => by kernel_rfl
def notIn (S : List Int) (i : Int) : Bool := !S.contains i
set_option maxHeartbeats 400000 in
theorem lacks1_any (i : Int) (b mb : Nat) (S : List Int) (w : World) (h : w.cell? ⟨b, 0, none⟩ = some (.map (some mb))) (hm : MapI w mb (setI S)) :
    Calls Tryz.prog 67 #[.int .i64 i, .pointer (some ⟨b, 0, none⟩)] w fun e w' => e = .returned (.bool (notIn S i)) ∧ Below w.heap.size w w' := by
  have hl := hm.look u80 (zero4 _) i
  rw [look_set] at hl
  have hb := World.block_lt_of_cell? _ _ h
  dsimp only at hb
  clear hm
  unfold notIn
  generalize S.contains i = q at *
  go_enter Tryz.func67, Tryz.ntmps67
  go_wp2
  go_ret
  exact ⟨rfl, bel⟩

def idxN (S : List Int) : Nat → List Int
  | 0 => []
  | k + 1 => if S.contains (k : Int) then idxN S k else idxN S k ++ [(k : Int)]
theorem idxN_len (S : List Int) : ∀ k, (idxN S k).length ≤ k
  | 0 => Nat.le_refl _
  | k + 1 => by
    have := idxN_len S k
    unfold idxN
    split
    · omega
    · simp; omega
theorem idxN_kept (S : List Int) (l : List Lk) : ∀ k, (idxN S k).length = (keptN l (notIn S) k).length
  | 0 => rfl
  | k + 1 => by
    have := idxN_kept S l k
    unfold idxN keptN
    rw [show notIn S k = !S.contains (k : Int) from rfl]
    cases h : S.contains (k : Int)
    · simpa using this
    · simpa using this
theorem idxN_mem (S : List Int) : ∀ k, ∀ i ∈ idxN S k, 0 ≤ i ∧ i < k
  | 0, i, h => by simp [idxN] at h
  | k + 1, i, h => by
    unfold idxN at h
    split at h
    · have := idxN_mem S k i h; omega
    · rcases List.mem_append.1 h with h | h
      · have := idxN_mem S k i h; omega
      · obtain rfl := List.mem_singleton.1 h; omega
def scatN (idx u : List Int) : Nat → List Int → List Int
  | 0, a => a
  | k + 1, a => si (scatN idx u k a) (gi idx k) (gi u k)
theorem scatN_length (idx u : List Int) : ∀ (k : Nat) (a : List Int), (scatN idx u k a).length = a.length
  | 0, _ => rfl
  | k + 1, a => by simp [scatN, si, scatN_length idx u k a]
def lacksR (l : List Lk) (sum : Int) (S : List Int) (r : List Int × Int) : List Int × Bool :=
  if r.2 = 0 ∧ costI (keptL l (notIn S)) r.1 = sum then (scatN (idxN S l.length) r.1 (idxN S l.length).length (List.replicate l.length 0), true) else ([], false)
def lacksP (F : Nat) (n : Nat) (l : List Lk) (w : List Int) (sum : Int) (S : List Int) : Option (List Int × Bool) := (bestP F n (keptL l (notIn S)) w).map (lacksR l sum S)
theorem LksAt.drew {w : World} {A : Option Addr} {l : List Lk} (h : LksAt w A l) : LksAt w.drew A l := h
theorem IntsAt.drew {w : World} {A : Option Addr} {l : List Int} (h : IntsAt w A l) : IntsAt w.drew A l := h
theorem news_kept {w w1 : World} {v1 v2 : Value} {t : TypeId} (hb : Below (w.alloc (.cells #[v1, v2] t)).heap.size (w.alloc (.cells #[v1, v2] t)) w1) : w1.cell? ⟨w.heap.size, 0, none⟩ = some v1 ∧ w1.cell? ⟨w.heap.size, 1, none⟩ = some v2 ∧ w1.frozen? ⟨w.heap.size, 0, none⟩ = false ∧ w1.frozen? ⟨w.heap.size, 1, none⟩ = false ∧ w.heap.size < w1.heap.size := by
  have h := hb.size
  simp at h
  have hh := hb.block w.heap.size (by simp)
  rw [heap_alloc_new] at hh
  refine ⟨?_, ?_, ?_, ?_, by omega⟩ <;> simp [World.cell?, World.frozen?, hh]
theorem own_lksV {w : World} {base : Nat} {v : Value} {l : List Lk} (h : w.ownsRow base 51 3 v l.length (lkcs l)) : ∃ A c, v = .slice A l.length c ∧ LksAt w A l ∧ (A = none → l.length = 0 ∧ c = 0) ∧ (∀ ad, A = some ad → base ≤ ad.block) := by
  obtain ⟨A, c, rfl, _, h3, h4⟩ := own_slice h
  exact ⟨A, c, rfl, own_lks h, h3, fun ad e => (h4 ad e).2.1⟩
theorem set_two {w2 : World} {g : Nat} {v1 v2 u1 u2 : Value} (h1 : w2.cell? ⟨g, 0, none⟩ = some u1) (h2 : w2.cell? ⟨g, 1, none⟩ = some u2) :
    ((w2.setCell ⟨g, 0, none⟩ v1).setCell ⟨g, 1, none⟩ v2).cell? ⟨g, 0, none⟩ = some v1 ∧ ((w2.setCell ⟨g, 0, none⟩ v1).setCell ⟨g, 1, none⟩ v2).cell? ⟨g, 1, none⟩ = some v2 ∧ w2.grownBy ((w2.setCell ⟨g, 0, none⟩ v1).setCell ⟨g, 1, none⟩ v2) (some g) := by
  refine ⟨?_, ?_, grown_set (grown_set (grown_refl _ _) _ _ (.inl rfl)) _ _ (.inl rfl)⟩
  · rw [World.cell?_setCell_other _ _ _ _ (by simp)]
    exact World.cell?_setCell_same' _ _ _ (by rw [h1]; rfl)
  · exact World.cell?_setCell_same' _ _ _ (by rw [World.cell?_setCell_other _ _ _ _ (by simp), h2]; rfl)
set_option maxRecDepth 100000 in
set_option maxHeartbeats 4000000 in
theorem lacks_any (F : Nat) (r : List Int × Int) (n : Nat) (A : Option Addr) (c : Nat) (l : List Lk) (B : Option Addr) (d : Nat) (x : List Int) (sum : Int) (mb : Nat) (S : List Int) (w : World) (hn0 : 0 < n) (hn : n ≤ 1000000) (hl : l.length ≤ 1000) (hx : x.length = n) (h : LksAt w A l) (h' : IntsAt w B x) (hm : MapI w mb (setI S)) (hr : ∀ k ∈ l, InR n k) (hb : bestP F n (keptL l (notIn S)) x = some r) :
    Calls Tryz.prog 44 #[.agg #[.int .i64 n, .slice A l.length c], .slice B x.length d, .int .i64 sum, .map (some mb)] w fun e w' => ∃ v, e = .returned (.tuple #[v, .bool (lacksR l sum S r).2]) ∧ IntsV w' v (lacksR l sum S r).1 ∧ Below w.heap.size w w' := by
  have HA := Lib.hid h
  have HX := Lib.hid h'
  have HM := Lib.hid hm
  have HBB := Lib.hid (fun A2 c2 W h1 h2 => best_any F r n A2 c2 (keptL l (notIn S)) B d x W hn0 hn (by have := keptL_len l (notIn S); omega) hx h1 h2 (fun k hk => hr k (keptL_mem hk)) hb)
  have HRL := Lib.hid (best_len hb)
  have HXN := Lib.hid hx
  clear h h' hm hr hb hx
  obtain ⟨W0, hW0⟩ : ∃ W0, W0 = (w.alloc (.cells #[.int .i64 n, .slice A l.length c] 24)).alloc (.cells #[.map (some mb)] 77) := ⟨_, rfl⟩
  have HB0 := Lib.hid (show Below w.heap.size w W0 by rw [hW0]; exact bel)
  have HQ := Lib.hid (show W0.cell? ⟨w.heap.size, 0, none⟩ = some (.int .i64 n) ∧ W0.cell? ⟨w.heap.size, 1, none⟩ = some (.slice A l.length c) ∧ W0.cell? ⟨w.heap.size + 1, 0, none⟩ = some (.map (some mb)) ∧ W0.heap.size = w.heap.size + 2 by rw [hW0]; refine ⟨by go_simp, by go_simp, by go_simp, by simp⟩)
  have HW0 := Lib.hid hW0
  clear hW0
  go_enter Tryz.func44, Tryz.ntmps44
  go_upto_region 3 with fail
  rw [← HW0.out]
  go_loopw [10, 11, 21] (fun v _ i wr => ∃ k : Nat, k ≤ l.length ∧ i = .int .i64 k ∧ Hid (OwnN W0.heap.size W0 wr v (idxN S k))) (fun _ _ i _ => l.length - (intOf i).toNat)
  case atStart => exact ⟨0, by omega, rfl, Lib.hid ⟨World.ownsRow_nil _ _ _ _, Below.refl _ _, Nat.le_refl _⟩⟩
  case round =>
    obtain ⟨k, hk, rfl, HZ⟩ := hrel
    have q0 := cell_below HZ.out.below HQ.out.1
    have q1 := cell_below HZ.out.below HQ.out.2.1
    have q2 := cell_below HZ.out.below HQ.out.2.2.1
    have hlk := ((HM.out.below HB0.out).below HZ.out.below).look u80 (zero4 _) k
    rw [look_set] at hlk
    have lt2 := World.block_lt_of_cell? _ _ q2
    by_cases hlt : k < l.length
    · have HQ0 := Lib.hid q0
      clear q0
      have hkl := idxN_len S k
      cases hS : S.contains (k : Int)
      · rw [hS] at hlk
        have Hs := Lib.hid (show idxN S (k + 1) = idxN S k ++ [(k : Int)] by simp only [idxN, hS]; rfl)
        clear hS
        go_wp2_with (at_builtin; refine app_one rfl _ _ 38 3 (.int .i64 0) 1 8 rfl Tryz.underlying38 info3 rfl (by omega) u10 _ _ [.int .i64 k] rfl rfl rfl rfl (one1 _ _) W0.heap.size HZ.out.row HZ.out.hB (by omega) (by unfold maxLen; omega) ?_; intro v1 w1 ho hg _; have HG := Lib.hid hg; have HO3 := Lib.hid ho; clear ho hg)
        go_roundw
        case rel => exact ⟨k + 1, by omega, by go_num, Lib.hid (by rw [Hs.out]; exact HZ.out.appended HO3.out HG.out)⟩
        case measure => simp [intOf]; omega
      · rw [hS] at hlk
        have Hs := Lib.hid (show idxN S (k + 1) = idxN S k by simp only [idxN, hS]; rfl)
        clear hS
        go_wp2
        go_roundw
        case rel => exact ⟨k + 1, by omega, by go_num, Lib.hid (by rw [Hs.out]; exact HZ.out)⟩
        case measure => simp [intOf]; omega
    · obtain rfl : k = l.length := by omega
      have lt0 := World.block_lt_of_cell? _ _ q0
      have hBr := HZ.out.below
      have HTI := Lib.hid (show ∀ W, Below wr.heap.size wr W → TestsIdx 67 #[.pointer (some ⟨w.heap.size + 1, 0, none⟩)] (notIn S) l.length W from fun W hW i W' _ hW' => lacks1_any i _ mb S W' (cell_below hW' (cell_below hW q2)) ((((HM.out.below HB0.out).below hBr).below hW).below hW'))
      clear hlk hBr
      have HAR := Lib.hid ((HA.out.below HB0.out).below HZ.out.below)
      go_upto_region 8 with fail
      go_cut [12] from 13 (fun q wx => ∃ (b : Nat) (A2 : Option Addr) (c2 : Nat), q = .pointer (some ⟨b, 0, none⟩) ∧ wx.cell? ⟨b, 0, none⟩ = some (.int .i64 n) ∧ wx.cell? ⟨b, 1, none⟩ = some (.slice A2 (keptL l (notIn S)).length c2) ∧ Hid (LksAt wx A2 (keptL l (notIn S))) ∧ Hid (Below wr.heap.size wr wx))
      case first =>
        go_region_held3 (fun w' => w'.cell? ⟨w.heap.size, 0, none⟩ = some (.int .i64 n) ∧ w'.cell? ⟨w.heap.size, 1, none⟩ = some (.slice A l.length c)) (constructor <;> (repeat' (first | exact q0 | exact q1 | refine cell_alloc _ ?_ | refine cell_below hb2 ?_ | (refine cell_other ?_ (by simp; omega))))) ((go_at_call 66; refine (kept_any 67 _ (notIn S) A c l _ (by omega) ?hh cf105 ?hi).mono ?_; (case hh => first | exact HAR.out | exact HAR.out.drew | exact HAR.out.alloc _ | exact (HAR.out.alloc _).drew); (case hi => first | exact HTI.out _ (Below.refl _ _) | exact HTI.out _ (by first | exact bel | exact below_undrew bel)); rintro e w2 ⟨v, rfl, ho, hb2⟩; obtain ⟨A2, c2, rfl, hv2, _, hv3⟩ := own_lksV ho; have hsz2 : wr.heap.size ≤ w2.heap.size := Nat.le_trans (by first | exact Nat.le_refl _ | simp) hb2.size; first | (have hzz := news_kept (below_undrew hb2); obtain ⟨z0, z1, z2, z3, z4⟩ := hzz) | skip))
        all_goals go_wp2_with fail
        · go_meet
          exact ⟨_, A2, c2, rfl, by go_simp, by go_simp, Lib.hid (hv2.alloc _), Lib.hid ((below_undrew hb2).alloc hsz2 _)⟩
        all_goals
          have hb3 := below_undrew hb2
          have hv4 : ∀ ad, A2 = some ad → wr.heap.size + 1 ≤ ad.block := fun ad e => by have := hv3 ad e; simpa using this
          have hs2 := set_two (v1 := .int .i64 (n : Int)) (v2 := .slice A2 (keptL l (notIn S)).length c2) z0 z1
          go_meet
          exact ⟨_, _, _, rfl, hs2.1, hs2.2.1, Lib.hid (hv2.grown hs2.2.2 (fun ad e _ e2 => by have := hv4 ad e; have := Option.some.inj e2; omega)), Lib.hid ((((show Below wr.heap.size wr (wr.alloc _) from bel).trans (hb3.mono (by simp [World.drew]))).setCell (Nat.le_refl _) _).setCell (Nat.le_refl _) _)⟩
      case rest =>
        obtain ⟨b2, A2, c2, rfl, c0, c1, HL2, HB2⟩ := hcut
        have HOI := Lib.hid (HZ.out.calls HB2.out)
        obtain ⟨A4, c4, hu4, hv4, _⟩ := own_intsV HOI.out.row
        subst hu4
        have HV4 := Lib.hid hv4
        have HIL := Lib.hid (idxN_len S l.length)
        have HIK := Lib.hid (idxN_kept S l l.length)
        clear hv4
        have HWB := Lib.hid (show Below w.heap.size w wc from below_trans (below_trans HB0.out (HZ.out.below)) HB2.out)
        have HCB := Lib.hid (fun W h1 h2 => HBB.out A2 c2 W h1 h2)
        have lb2 := World.block_lt_of_cell? _ _ c0
        have q0' := cell_below HB2.out q0
        have q1' := cell_below HB2.out q1
        clear q0 q1 q2 lt2 lt0
        by_cases hr0 : r.2 = 0
        · have hc' : (r.2 != 0) = false := by simpa using hr0
          have HR0 := Lib.hid hr0
          clear hr0
          by_cases hcs : costI (keptL l (notIn S)) r.1 = sum
          · have hc2 : (costI (keptL l (notIn S)) r.1 != sum) = false := by simpa using hcs
            have HCS := Lib.hid hcs
            clear hcs
            have hmk := mkInts l.length (by omega)
            go_wp2_with (first | (go_at_call 64; refine (HCB.out _ HL2.out (HX.out.below HWB.out)).mono ?_; rintro e w3 ⟨v, rfl, ⟨A3, c3, rfl, hv, _⟩, hb3⟩; have HB3 := Lib.hid hb3; have HV := Lib.hid hv; have c0 := cell_below hb3 c0; have c1 := cell_below hb3 c1; have q1' := cell_below hb3 q1'; have lb2 := World.block_lt_of_cell? _ _ c0; have lb0 := World.block_lt_of_cell? _ _ q1'; clear hb3 hv) | (go_at_call 43; refine (cost_any n A2 c2 _ A3 c3 r.1 _ (by have := keptL_len l (notIn S); omega) (HRL.out HR0.out) (HL2.out.below HB3.out) HV.out).mono ?_; rintro e w4 ⟨rfl, hb4⟩; have HB4 := Lib.hid hb4; have q1' := cell_below hb4 q1'; have lb0 := World.block_lt_of_cell? _ _ q1'; clear hb4))
            have HV3 := Lib.hid (HV.out.below HB4.out)
            have HV5 := Lib.hid (HV4.out.below (below_trans HB3.out HB4.out))
            have HAP3 := Lib.hid (HV3.out.apart (Nat.le_refl _))
            have HAP5 := Lib.hid (HV5.out.apart (Nat.le_refl _))
            have HWB4 := Lib.hid (below_trans (below_trans HWB.out HB3.out) HB4.out)
            have hlen3 : r.1.length = (idxN S l.length).length := by rw [HRL.out HR0.out, HIK.out]; rfl
            have HLEN3 := Lib.hid hlen3
            have hil := HIL.out
            clear hlen3 hmk c0 c1 q1' q0' lb2
            go_loopw [16, 17, 61] (fun _ _ i wr => ∃ k : Nat, k ≤ (idxN S l.length).length ∧ i = .int .i64 k ∧ Hid (RowI wr w4.heap.size (scatN (idxN S l.length) r.1 k (List.replicate l.length 0))) ∧ Hid ((w4.alloc (.cells (madeCells #[.int .i64 0] l.length) 3)).grownBy wr (some w4.heap.size))) (fun _ _ i _ => (idxN S l.length).length - (intOf i).toNat)
            case atStart => exact ⟨0, by omega, rfl, Lib.hid (RowI_made _ _), Lib.hid (grown_refl _ _)⟩
            case round =>
              obtain ⟨k, hk, rfl, HR, HG⟩ := hrel
              by_cases hlt : k < (idxN S l.length).length
              · have hlt3 : k < r.1.length := by rw [HLEN3.out]; exact hlt
                obtain ⟨b5, o5, rfl, g5⟩ := ((HV5.out.alloc _).grown HG.out HAP5.out).nat k hlt
                obtain ⟨b6, o6, rfl, g6⟩ := ((HV3.out.alloc _).grown HG.out HAP3.out).nat k hlt3
                have hi := idxN_mem S l.length _ (gi_mem (l := idxN S l.length) (i := (k : Int)) (by omega) (by omega))
                have Hs := Lib.hid (show scatN (idxN S l.length) r.1 (k + 1) (List.replicate l.length 0) = (scatN (idxN S l.length) r.1 k (List.replicate l.length 0)).set (gi (idxN S l.length) k).toNat (gi r.1 k) from rfl)
                obtain ⟨hi0, hi1⟩ := hi
                generalize hq : gi (idxN S l.length) k = q at *
                have HQ3 := Lib.hid hq
                clear hq
                have cq := HR.out.cell q.toNat (by rw [scatN_length]; simp; omega)
                have fq := HR.out.frozen q.toNat
                have lg := HR.out.lt
                have l5 := World.block_lt_of_cell? _ _ g5
                have l6 := World.block_lt_of_cell? _ _ g6
                go_wp2
                go_roundw
                case rel => exact ⟨k + 1, by omega, by go_num, Lib.hid (by rw [Hs.out]; exact HR.out.set _ _), Lib.hid (grown_set HG.out _ _ (.inl rfl))⟩
                case measure => simp [intOf]; omega
              · obtain rfl : k = (idxN S l.length).length := by omega
                have HFin := Lib.hid (show lacksR l sum S r = (scatN (idxN S l.length) r.1 (idxN S l.length).length (List.replicate l.length 0), true) by unfold lacksR; rw [if_pos ⟨HR0.out, HCS.out⟩])
                go_wp2
                go_ret2
                refine ⟨_, by rw [HFin.out]; rfl, ?_, ?_⟩
                · rw [HFin.out]
                  have := HR.out.intsV (c := l.length)
                  rw [scatN_length, List.length_replicate] at this
                  exact this
                · exact below_of_grown (HWB4.out.alloc (by have := HWB4.out.size; omega) _) HG.out (by have := HWB4.out.size; simp; omega) (by have := HWB4.out.size; omega)
          · have hc2 : (costI (keptL l (notIn S)) r.1 != sum) = true := by simpa using hcs
            have HCS := Lib.hid (show lacksR l sum S r = ([], false) by simp [lacksR, hcs])
            clear hcs
            go_wp2_with (first | (go_at_call 64; refine (HCB.out _ HL2.out (HX.out.below HWB.out)).mono ?_; rintro e w3 ⟨v, rfl, ⟨A3, c3, rfl, hv, _⟩, hb3⟩; have HB3 := Lib.hid hb3; have HV := Lib.hid hv; have c0 := cell_below hb3 c0; have c1 := cell_below hb3 c1; have q1' := cell_below hb3 q1'; have lb2 := World.block_lt_of_cell? _ _ c0; have lb0 := World.block_lt_of_cell? _ _ q1'; clear hb3 hv) | (go_at_call 43; refine (cost_any n A2 c2 _ A3 c3 r.1 _ (by have := keptL_len l (notIn S); omega) (HRL.out HR0.out) (HL2.out.below HB3.out) HV.out).mono ?_; rintro e w4 ⟨rfl, hb4⟩; have HB4 := Lib.hid hb4; clear hb4))
            go_ret2
            exact ⟨_, by rw [HCS.out]; rfl, by rw [HCS.out]; exact IntsV.nil _, below_trans (below_trans HWB.out HB3.out) HB4.out⟩
        · have hc' : (r.2 != 0) = true := by simpa using hr0
          have HR0 := Lib.hid (show lacksR l sum S r = ([], false) by simp [lacksR, hr0])
          clear hr0
          go_wp2_with (go_at_call 64; refine (HCB.out _ HL2.out (HX.out.below HWB.out)).mono ?_; rintro e w3 ⟨v, rfl, hv, hb3⟩; have HB3 := Lib.hid hb3; clear hb3 hv)
          go_ret2
          exact ⟨_, by rw [HR0.out]; rfl, by rw [HR0.out]; exact IntsV.nil _, below_trans HWB.out HB3.out⟩
end Go.Proofs.YtmhiiomejopaoaaGreatDoor
