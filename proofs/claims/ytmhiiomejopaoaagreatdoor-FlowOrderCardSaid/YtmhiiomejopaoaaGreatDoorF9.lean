/- The flow walks, ninth part: leads, rigid, kept. -/
import Derived.Test.YtmhiiomejopaoaaGreatDoorF7
namespace Go.Proofs.YtmhiiomejopaoaaGreatDoor
set_option linter.all false
set_option maxRecDepth 100000
open Go.RowKit

def solutionL (n : Nat) (l : List Lk) : List Int × Bool := settled l (List.replicate n 0)
theorem settled_length (l : List Lk) (x : List Int) : (settled l x).1.length = x.length := settledN_length l _ x
theorem solutionL_length (n : Nat) (l : List Lk) : (solutionL n l).1.length = n := by rw [solutionL, settled_length]; simp
set_option maxHeartbeats 400000 in
theorem solution_yes (n : Nat) (A : Option Addr) (c : Nat) (l : List Lk) (w : World) (hn : n ≤ 1000000) (hl : l.length ≤ 1000000) (h : LksAt w A l) (hr : ∀ k ∈ l, InR n k) (hy : (solutionL n l).2 = true) :
    Calls Tryz.prog 35 #[.int .i64 (n : Int), .slice A l.length c] w fun e w' => ∃ g, e = .returned (.tuple #[.slice (some ⟨g, 0, none⟩) n n, .bool true]) ∧ w.heap.size ≤ g ∧ RowI w' g (solutionL n l).1 ∧ Below w.heap.size w w' := by
  have hmk := mkInts n hn
  have hs := settled_any l A c (List.replicate n 0) w.heap.size n _ (by omega) (by simp; omega) (h.alloc _) (RowI_made w n) (h.apart (Nat.le_refl _)) (by simpa using hr)
  rw [List.length_replicate] at hs
  have HS := Lib.hid hs
  have HY := Lib.hid hy
  clear h hr hs hy
  go_enter Tryz.func35, Tryz.ntmps35
  go_wp2_with (go_at_call 62; refine HS.out.mono ?_; rintro e w1 ⟨rfl, hrow, hg⟩; have HROW := Lib.hid hrow; have HG := Lib.hid hg; have hy2 : (settled l (List.replicate n 0)).snd = true := HY.out; clear hrow hg)
  go_ret2
  exact ⟨w.heap.size, rfl, Nat.le_refl _, HROW.out, below_of_grown (Below.alloc (Below.refl _ _) (Nat.le_refl _) _) HG.out (by simp) (Nat.le_refl _)⟩
set_option maxHeartbeats 400000 in
theorem solution_no (n : Nat) (A : Option Addr) (c : Nat) (l : List Lk) (w : World) (hn : n ≤ 1000000) (hl : l.length ≤ 1000000) (h : LksAt w A l) (hr : ∀ k ∈ l, InR n k) (hy : (solutionL n l).2 = false) :
    Calls Tryz.prog 35 #[.int .i64 (n : Int), .slice A l.length c] w fun e w' => e = .returned (.tuple #[.slice none 0 0, .bool false]) ∧ Below w.heap.size w w' := by
  have hmk := mkInts n hn
  have hs := settled_any l A c (List.replicate n 0) w.heap.size n _ (by omega) (by simp; omega) (h.alloc _) (RowI_made w n) (h.apart (Nat.le_refl _)) (by simpa using hr)
  rw [List.length_replicate] at hs
  have HS := Lib.hid hs
  have HY := Lib.hid hy
  clear h hr hs hy
  go_enter Tryz.func35, Tryz.ntmps35
  go_wp2_with (go_at_call 62; refine HS.out.mono ?_; rintro e w1 ⟨rfl, hrow, hg⟩; have HG := Lib.hid hg; have hy2 : (settled l (List.replicate n 0)).snd = false := HY.out; clear hrow hg)
  go_ret2
  exact ⟨rfl, below_of_grown (Below.alloc (Below.refl _ _) (Nat.le_refl _) _) HG.out (by simp) (Nat.le_refl _)⟩

def boundsL (n : Nat) (l : List Lk) (s : Int) : List Int := (settled l (si (List.replicate n free) s 0)).1
theorem rep_set (n k : Nat) (h : k < n) : (List.replicate k free ++ List.replicate (n - k) 0).set k free = List.replicate (k + 1) free ++ List.replicate (n - (k + 1)) 0 := by
  apply List.ext_getElem?
  intro i
  simp only [List.getElem?_set, List.getElem?_append, List.getElem?_replicate, List.length_append, List.length_replicate]
  repeat' split
  all_goals first | rfl | omega | simp_all
set_option maxRecDepth 100000 in
set_option maxHeartbeats 400000 in
theorem bounds_any (n : Nat) (A : Option Addr) (c : Nat) (l : List Lk) (s : Int) (w : World) (hn : n ≤ 1000000) (hl : l.length ≤ 1000000) (h : LksAt w A l) (hr : ∀ k ∈ l, InR n k) (hs0 : 0 ≤ s) (hs1 : s < n) :
    Calls Tryz.prog 40 #[.int .i64 (n : Int), .slice A l.length c, .int .i64 s] w fun e w' => ∃ g, e = .returned (.slice (some ⟨g, 0, none⟩) n n) ∧ w.heap.size ≤ g ∧ RowI w' g (boundsL n l s) ∧ Below w.heap.size w w' := by
  have hmk := mkInts n hn
  have H := Lib.hid h
  have HR := Lib.hid hr
  clear h hr
  go_enter Tryz.func40, Tryz.ntmps40
  go_wp2
  go_loopw [8, 13] (fun _ i wr => ∃ k : Nat, k ≤ n ∧ i = .int .i64 k ∧ Hid (RowI wr w.heap.size (List.replicate k free ++ List.replicate (n - k) 0)) ∧ Hid (Below w.heap.size w wr)) (fun _ i _ => n - (intOf i).toNat)
  case atStart => exact ⟨0, by omega, rfl, Lib.hid (by simpa using RowI_made w n), Lib.hid bel⟩
  case round =>
    obtain ⟨k, hk, rfl, HZ, HB⟩ := hrel
    by_cases hlt : k < n
    · have c1 := HZ.out.cell k (by simp; omega)
      have f1 := HZ.out.frozen k
      have Hs := Lib.hid (rep_set n k hlt)
      go_wp2
      go_roundw
      case rel => exact ⟨k + 1, by omega, by go_num, Lib.hid (by rw [← Hs.out]; exact HZ.out.set _ _), Lib.hid (HB.out.setCell (by simp) _)⟩
      case measure => simp [intOf]; omega
    · obtain rfl : k = n := by omega
      have e0 : List.replicate k free ++ List.replicate (k - k) 0 = List.replicate k free := by simp
      rw [e0] at HZ
      have c1 := HZ.out.cell s.toNat (by simp; omega)
      have f1 := HZ.out.frozen s.toNat
      have hse := tn s hs0
      have HSE := Lib.hid hse
      clear hse
      have R3 := Lib.hid (HZ.out.set s.toNat 0)
      have hlen : ((List.replicate k free).set s.toNat 0).length = k := by simp
      have hwr : (wr.setCell ⟨w.heap.size, s.toNat, none⟩ (.int .i64 0)).heap.size = wr.heap.size := by simp [World.setCell]
      have B3 := Lib.hid (HB.out.setCell (p := ⟨w.heap.size, s.toNat, none⟩) (Nat.le_refl _) (.int .i64 0))
      have hs := settled_any l A c ((List.replicate k free).set s.toNat 0) w.heap.size k _ (by omega) (by simp; omega) (H.out.below B3.out) R3.out (H.out.apart (Nat.le_refl _)) (by simpa using HR.out)
      rw [hlen] at hs
      have HS := Lib.hid hs
      clear hs hlen hwr
      go_wp2_with (go_at_call 62; refine HS.out.mono ?_; rintro e w1 ⟨rfl, hrow, hg⟩; have HROW := Lib.hid hrow; have HG := Lib.hid hg; clear hrow hg)
      go_ret
      exact ⟨_, rfl, Nat.le_refl _, HROW.out, below_of_grown B3.out HG.out B3.out.size (Nat.le_refl _)⟩

def leadStep (l : List Lk) (s : Int × Int) (i : Int) : Option (Int × Int) :=
  if withinB i 0 ((l.length : Int) - 1) && ((gl l i).a == s.1) then some ((gl l i).b, wrap64 (s.2 + (gl l i).m)) else none
def leadsO (l : List Lk) (s : Int) (path : List Int) : Option (Int × Int) := path.foldlM (leadStep l) (s, 0)
theorem foldM_gi {α : Type} (f : α → Int → Option α) (a : α) (l : List Int) (k : Nat) (h : k < l.length) : (l.take (k + 1)).foldlM f a = ((l.take k).foldlM f a).bind (fun s => f s (gi l k)) := by
  rw [take_gi l k h, List.foldlM_append]
  simp
theorem foldM_none {α : Type} (f : α → Int → Option α) (a : α) (l : List Int) (k : Nat) (h : (l.take k).foldlM f a = none) : l.foldlM f a = none := by
  conv => lhs; rw [← List.take_append_drop k l]
  rw [List.foldlM_append, h]
  rfl

def leadsV (o : Option (Int × Int)) : Ending := .returned (match o with | some (t, m) => .tuple #[.int .i64 t, .int .i64 m, .bool true] | none => .tuple #[.int .i64 0, .int .i64 0, .bool false])
set_option maxRecDepth 100000 in
set_option maxHeartbeats 1000000 in
theorem leads_any (n : Int) (A : Option Addr) (c : Nat) (l : List Lk) (s : Int) (B : Option Addr) (d : Nat) (p : List Int) (w : World) (hl : l.length ≤ 1000000) (hp : p.length ≤ 140737488351232) (h : LksAt w A l) (h' : IntsAt w B p) :
    Calls Tryz.prog 54 #[.agg #[.int .i64 n, .slice A l.length c], .int .i64 s, .slice B p.length d] w fun e w' =>
      e = leadsV (leadsO l s p) ∧ Below w.heap.size w w' := by
  have H := Lib.hid h
  have H' := Lib.hid h'
  clear h h'
  go_enter Tryz.func54, Tryz.ntmps54
  go_wp2
  go_loopw [1, 9, 11, 14] (fun f m _ i wr => ∃ (k : Nat) (t u : Int), k ≤ p.length ∧ i = .int .i64 k ∧ f = .int .i64 t ∧ m = .int .i64 u ∧ Hid ((p.take k).foldlM (leadStep l) (s, 0) = some (t, u)) ∧ Hid (Below w.heap.size w wr) ∧ wr.cell? ⟨w.heap.size, 1, none⟩ = some (.slice A l.length c)) (fun _ _ _ i _ => p.length - (intOf i).toNat)
  case atStart => exact ⟨0, s, 0, by omega, rfl, rfl, rfl, Lib.hid rfl, Lib.hid bel, by simp⟩
  case round =>
    obtain ⟨k, t, u, hk, rfl, rfl, rfl, HF, HB, hc1⟩ := hrel
    by_cases hlt : k < p.length
    · obtain ⟨b, o, rfl, g1⟩ := (H'.out.below HB.out).nat k hlt
      have Hm := Lib.hid (foldM_gi (leadStep l) (s, 0) p k hlt)
      have HNo := Lib.hid (foldM_none (leadStep l) (s, 0) p (k + 1))
      generalize hx : gi p k = x at *
      have HX := Lib.hid hx
      clear hx
      cases hw : withinB x 0 ((l.length : Int) - 1)
      · have hno : leadsO l s p = none := HNo.out (by rw [Hm.out, HF.out]; simp [leadStep, hw])
        have HNN := Lib.hid hno
        clear hno
        go_wp2_with (go_at_call 53; refine (within_any _ _ _ _).mono ?_; rintro e w' ⟨rfl, rfl⟩)
        go_ret3
        exact ⟨by rw [HNN.out]; rfl, HB.out⟩
      · have hb : 0 ≤ x ∧ x < l.length := by simp [withinB] at hw; omega
        obtain ⟨hx0, hx1⟩ := hb
        obtain ⟨b2, o2, rfl, g2, g3, g4⟩ := (H.out.below HB.out) x hx0 hx1
        cases hq : ((gl l x).a == t)
        · have hq' : ((gl l x).a != t) = true := by simp only [bne, hq]; rfl
          have hno : leadsO l s p = none := HNo.out (by rw [Hm.out, HF.out]; simp only [Option.bind_some, leadStep, hw, hq]; rfl)
          have HNN := Lib.hid hno
          clear hno
          have HQ := Lib.hid hq
          clear hq
          go_wp2_with (go_at_call 53; refine (within_any _ _ _ _).mono ?_; rintro e w' ⟨rfl, rfl⟩)
          go_ret3
          exact ⟨by rw [HNN.out]; rfl, HB.out⟩
        · have hq' : ((gl l x).a != t) = false := by simp only [bne, hq]; rfl
          have Hs := Lib.hid (show (p.take (k + 1)).foldlM (leadStep l) (s, 0) = some ((gl l x).b, wrap64 (u + (gl l x).m)) by rw [Hm.out, HF.out]; simp only [Option.bind_some, leadStep, hw, hq]; rfl)
          have HQ := Lib.hid hq
          clear hq
          go_wp2_with (go_at_call 53; refine (within_any _ _ _ _).mono ?_; rintro e w' ⟨rfl, rfl⟩)
          go_quiet (fail)
          go_wp2
          go_roundw
          case rel => exact ⟨k + 1, _, _, by omega, by go_num, rfl, rfl, Hs, Lib.hid (below_drews HB.out _), hc1⟩
          case measure => simp [intOf]; omega
    · obtain rfl : k = p.length := by omega
      have e : leadsO l s p = some (t, u) := by rw [leadsO, ← HF.out, List.take_length]
      have HE := Lib.hid e
      clear e
      go_wp2
      go_ret3
      exact ⟨by rw [HE.out]; rfl, HB.out⟩

def backs (l : List Lk) (u : List Int) : List Lk := (l.zip u).filterMap fun p => if 0 < p.2 then some ⟨p.1.b, p.1.a, wrap64 (-p.1.m)⟩ else none
def rigidL (l : List Lk) (u : List Int) : List Lk := l ++ backs l u
theorem filterMap_take {α β : Type} (f : α → Option β) (l m : List α) (x : α) (h : l = m ++ [x]) : l.filterMap f = m.filterMap f ++ (f x).toList := by
  rw [h, List.filterMap_append]; cases hx : f x <;> simp [hx]
theorem filterMap_len {α β : Type} (f : α → Option β) (l : List α) : (l.filterMap f).length ≤ l.length := List.length_filterMap_le _ _
theorem lk_one (x : Lk) : ∀ u ∈ lkc x, u.oneCell' = true := by intro u hu; simp [lkc] at hu; rcases hu with rfl | rfl | rfl <;> rfl
set_option maxRecDepth 100000 in
set_option maxHeartbeats 1000000 in
theorem rigid_any (n : Int) (A : Option Addr) (c : Nat) (l : List Lk) (B : Option Addr) (d : Nat) (u : List Int) (w : World) (hl : l.length ≤ 400000) (hu : u.length = l.length) (hnil : A = none → l.length = 0 ∧ c = 0) (h : LksAt w A l) (h' : IntsAt w B u) :
    Calls Tryz.prog 42 #[.agg #[.int .i64 n, .slice A l.length c], .slice B u.length d] w fun e w' => ∃ v, e = .returned v ∧ w'.ownsRow w.heap.size 51 3 v (rigidL l u).length (lkcs (rigidL l u)) ∧ Below w.heap.size w w' := by
  have H := Lib.hid h
  have H' := Lib.hid h'
  have HN := Lib.hid hnil
  have HU := Lib.hid hu
  clear h h' hnil hu
  go_enter Tryz.func42, Tryz.ntmps42
  go_wp2_with fail
  refine (clone_lks A c l _ (by omega) HN.out (H.out.alloc _)).mono ?_
  rintro e w1 ⟨v, rfl, ho, hb⟩
  have HB1 := Lib.hid (below_trans (bel : Below w.heap.size w _) hb)
  have HO := Lib.hid (show w1.ownsRow w.heap.size 51 3 v l.length (lkcs l) from ⟨ho.1, by
    rcases ho.2 with h | ⟨g, cap, cur, e, hb', r⟩
    · exact .inl h
    · exact .inr ⟨g, cap, cur, e, by simp at hb'; omega, r⟩⟩)
  have hc1 : w1.cell? ⟨w.heap.size, 1, none⟩ = some (.slice A l.length c) := cell_below hb (by go_simp)
  clear ho hb
  go_wp2
  have HO2 := Lib.hid (show OwnL w.heap.size w w1 v (l ++ ((l.zip u).take 0).filterMap fun p => if 0 < p.2 then some ⟨p.1.b, p.1.a, wrap64 (-p.1.m)⟩ else none) from ⟨by simpa using HO.out, HB1.out, HB1.out.size⟩)
  go_loopw [5, 6, 7, 14] (fun v _ _ i wr => ∃ k : Nat, k ≤ l.length ∧ i = .int .i64 k ∧ Hid (OwnL w.heap.size w wr v (l ++ ((l.zip u).take k).filterMap fun p => if 0 < p.2 then some ⟨p.1.b, p.1.a, wrap64 (-p.1.m)⟩ else none))) (fun _ _ _ i _ => l.length - (intOf i).toNat)
  case atStart => exact ⟨0, by omega, rfl, HO2⟩
  case round =>
    obtain ⟨k, hk, rfl, HZ⟩ := hrel
    by_cases hlt : k < l.length
    · have hlt2 : k < u.length := by have := HU.out; omega
      obtain ⟨b, o, rfl, g1, g2, g3⟩ := (H.out.below HZ.out.below).nat k hlt
      obtain ⟨b', o', rfl, g4⟩ := (H'.out.below HZ.out.below).nat k hlt2
      have hz := World.block_lt_of_cell? _ _ g4
      dsimp only at hz
      have Hf := Lib.hid (filterMap_take (fun p : Lk × Int => if 0 < p.2 then some (⟨p.1.b, p.1.a, wrap64 (-p.1.m)⟩ : Lk) else none) _ _ _ (zipl_take l u k hlt hlt2))
      have Hlen := Lib.hid (filterMap_len (fun p : Lk × Int => if 0 < p.2 then some (⟨p.1.b, p.1.a, wrap64 (-p.1.m)⟩ : Lk) else none) ((l.zip u).take k))
      generalize hz0 : ((l.zip u).take k).filterMap (fun p : Lk × Int => if 0 < p.2 then some (⟨p.1.b, p.1.a, wrap64 (-p.1.m)⟩ : Lk) else none) = z at *
      clear hz0
      generalize hq : gl l k = q at *
      generalize hy : gi u k = y at *
      clear hq hy
      by_cases hy0 : 0 < y
      · have Hs := Lib.hid (show (l ++ z) ++ [⟨q.b, q.a, wrap64 (-q.m)⟩] = l ++ (((l.zip u).take (k + 1)).filterMap (fun p : Lk × Int => if 0 < p.2 then some (⟨p.1.b, p.1.a, wrap64 (-p.1.m)⟩ : Lk) else none)) by rw [Hf.out]; simp [hy0])
        have HL2 := Lib.hid (show (l ++ z).length + 1 ≤ 1000000 by have := Hlen.out; simp at this ⊢; omega)
        have hbs := HZ.out.hB
        go_wp2_with (at_builtin; refine app_one rfl _ _ 22 51 (.agg #[.int .i64 0, .int .i64 0, .int .i64 0]) 3 24 rfl Tryz.underlying22 info39 rfl (by omega) u5 _ _ (lkc ⟨q.b, q.a, wrap64 (-q.m)⟩) rfl rfl (by simp) rfl (lk_one _) w.heap.size (HZ.out.alloc _).row (HZ.out.alloc _).hB (by have := HL2.out; omega) (by have := HL2.out; unfold maxLen; omega) ?_; intro v1 w2 ho hg _; have HG := Lib.hid hg; have HO3 := Lib.hid ho; clear ho hg)
        go_roundw
        case rel => exact ⟨k + 1, by omega, by go_num, Lib.hid (by rw [← Hs.out]; exact (HZ.out.alloc _).appended HO3.out HG.out)⟩
        case measure => simp [intOf]; omega
      · have Hs := Lib.hid (show l ++ z = l ++ (((l.zip u).take (k + 1)).filterMap (fun p : Lk × Int => if 0 < p.2 then some (⟨p.1.b, p.1.a, wrap64 (-p.1.m)⟩ : Lk) else none)) by rw [Hf.out]; simp [hy0])
        go_wp2
        go_roundw
        case rel => exact ⟨k + 1, by omega, by go_num, Lib.hid (by rw [← Hs.out]; exact HZ.out.alloc _)⟩
        case measure => simp [intOf]; omega
    · obtain rfl : k = l.length := by omega
      have e : l ++ (((l.zip u).take l.length).filterMap (fun p : Lk × Int => if 0 < p.2 then some (⟨p.1.b, p.1.a, wrap64 (-p.1.m)⟩ : Lk) else none)) = rigidL l u := by
        rw [List.take_of_length_le (by simp; omega)]; rfl
      have HE := Lib.hid e
      clear e
      go_wp2
      go_ret
      exact ⟨_, rfl, by rw [← HE.out]; exact HZ.out.row, HZ.out.below⟩
end Go.Proofs.YtmhiiomejopaoaaGreatDoor
