/- The flow walks, ninth part: leads, rigid, kept. -/
import Derived.Test.YtmhiiomejopaoaaF8
namespace Go.Proofs.Ytmhiiomejopaoaa
set_option linter.all false
open Go.RowKit

def leadsV (o : Option (Int × Int)) : Ending := .returned (match o with | some (t, m) => .tuple #[.int .i64 t, .int .i64 m, .bool true] | none => .tuple #[.int .i64 0, .int .i64 0, .bool false])
set_option maxRecDepth 100000 in
set_option maxHeartbeats 1000000 in
theorem leads_any (n : Int) (A : Option Addr) (c : Nat) (l : List Lk) (s : Int) (B : Option Addr) (d : Nat) (p : List Int) (w : World) (hl : l.length ≤ 1000000) (hp : p.length ≤ 140737488351232) (h : LksAt w A l) (h' : IntsAt w B p) :
    Calls Try.prog 96 #[.agg #[.int .i64 n, .slice A l.length c], .int .i64 s, .slice B p.length d] w fun e w' =>
      e = leadsV (leadsO l s p) ∧ Below w.heap.size w w' := by
  have H := Lib.hid h
  have H' := Lib.hid h'
  clear h h'
  go_enter Try.func96, Try.ntmps96
  go_wp2
  go_loopw [1, 9, 11, 14] (fun f m _ i wr => ∃ (k : Nat) (t u : Int), k ≤ p.length ∧ i = .int .i64 k ∧ f = .int .i64 t ∧ m = .int .i64 u ∧ Hid ((p.take k).foldlM (leadStep l) (s, 0) = some (t, u)) ∧ Hid (Below w.heap.size w wr) ∧ wr.cell? ⟨w.heap.size, 1, none⟩ = some (.slice A l.length c)) (fun _ _ _ i _ => p.length - (intOf i).toNat)
  case atStart => exact ⟨0, s, 0, by omega, rfl, rfl, rfl, Lib.hid rfl, Lib.hid bel, by simp⟩
  case round =>
    obtain ⟨k, t, u, hk, rfl, rfl, rfl, HF, HB, hc1⟩ := hrel
    by_cases hlt : k < p.length
    · obtain ⟨b, o, rfl, g1⟩ := (H'.out.below HB.out).nat k hlt
      have Hm := Lib.hid (foldM_gi (leadStep l) (s, 0) p k hlt)
      have HNo := Lib.hid (foldM_none (leadStep l) (s, 0) p (k + 1))
      generalize hx : gi p k = x at *
      have HX := Lib.hid hx
      clear hx
      cases hw : withinB x 0 ((l.length : Int) - 1)
      · have hno : leadsO l s p = none := HNo.out (by rw [Hm.out, HF.out]; simp [leadStep, hw])
        have HNN := Lib.hid hno
        clear hno
        go_wp2_with (go_at_call 92; refine (within_any _ _ _ _).mono ?_; rintro e w' ⟨rfl, rfl⟩)
        go_ret3
        exact ⟨by rw [HNN.out]; rfl, HB.out⟩
      · have hb : 0 ≤ x ∧ x < l.length := by simp [withinB] at hw; omega
        obtain ⟨hx0, hx1⟩ := hb
        obtain ⟨b2, o2, rfl, g2, g3, g4⟩ := (H.out.below HB.out) x hx0 hx1
        cases hq : ((gl l x).a == t)
        · have hq' : ((gl l x).a != t) = true := by simp only [bne, hq]; rfl
          have hno : leadsO l s p = none := HNo.out (by rw [Hm.out, HF.out]; simp only [Option.bind_some, leadStep, hw, hq]; rfl)
          have HNN := Lib.hid hno
          clear hno
          have HQ := Lib.hid hq
          clear hq
          go_wp2_with (go_at_call 92; refine (within_any _ _ _ _).mono ?_; rintro e w' ⟨rfl, rfl⟩)
          go_ret3
          exact ⟨by rw [HNN.out]; rfl, HB.out⟩
        · have hq' : ((gl l x).a != t) = false := by simp only [bne, hq]; rfl
          have Hs := Lib.hid (show (p.take (k + 1)).foldlM (leadStep l) (s, 0) = some ((gl l x).b, wrap64 (u + (gl l x).m)) by rw [Hm.out, HF.out]; simp only [Option.bind_some, leadStep, hw, hq]; rfl)
          have HQ := Lib.hid hq
          clear hq
          go_wp2_with (go_at_call 92; refine (within_any _ _ _ _).mono ?_; rintro e w' ⟨rfl, rfl⟩)
          go_quiet (fail)
          go_wp2
          go_roundw
          case rel => exact ⟨k + 1, _, _, by omega, by go_num, rfl, rfl, Hs, Lib.hid (below_drews HB.out _), hc1⟩
          case measure => simp [intOf]; omega
    · obtain rfl : k = p.length := by omega
      have e : leadsO l s p = some (t, u) := by rw [leadsO, ← HF.out, List.take_length]
      have HE := Lib.hid e
      clear e
      go_wp2
      go_ret3
      exact ⟨by rw [HE.out]; rfl, HB.out⟩

def backs (l : List Lk) (u : List Int) : List Lk := (l.zip u).filterMap fun p => if 0 < p.2 then some ⟨p.1.b, p.1.a, wrap64 (-p.1.m)⟩ else none
def rigidL (l : List Lk) (u : List Int) : List Lk := l ++ backs l u
theorem filterMap_take {α β : Type} (f : α → Option β) (l m : List α) (x : α) (h : l = m ++ [x]) : l.filterMap f = m.filterMap f ++ (f x).toList := by
  rw [h, List.filterMap_append]; cases hx : f x <;> simp [hx]
theorem filterMap_len {α β : Type} (f : α → Option β) (l : List α) : (l.filterMap f).length ≤ l.length := List.length_filterMap_le _ _
theorem lk_one (x : Lk) : ∀ u ∈ lkc x, u.oneCell' = true := by intro u hu; simp [lkc] at hu; rcases hu with rfl | rfl | rfl <;> rfl
set_option maxRecDepth 100000 in
set_option maxHeartbeats 1000000 in
theorem rigid_any (n : Int) (A : Option Addr) (c : Nat) (l : List Lk) (B : Option Addr) (d : Nat) (u : List Int) (w : World) (hl : l.length ≤ 400000) (hu : u.length = l.length) (hnil : A = none → l.length = 0 ∧ c = 0) (h : LksAt w A l) (h' : IntsAt w B u) :
    Calls Try.prog 68 #[.agg #[.int .i64 n, .slice A l.length c], .slice B u.length d] w fun e w' => ∃ v, e = .returned v ∧ w'.ownsRow w.heap.size 39 3 v (rigidL l u).length (lkcs (rigidL l u)) ∧ Below w.heap.size w w' := by
  have H := Lib.hid h
  have H' := Lib.hid h'
  have HN := Lib.hid hnil
  have HU := Lib.hid hu
  clear h h' hnil hu
  go_enter Try.func68, Try.ntmps68
  go_wp2_with fail
  refine (clone_lks A c l _ (by omega) HN.out (H.out.alloc _)).mono ?_
  rintro e w1 ⟨v, rfl, ho, hb⟩
  have HB1 := Lib.hid (below_trans (bel : Below w.heap.size w _) hb)
  have HO := Lib.hid (show w1.ownsRow w.heap.size 39 3 v l.length (lkcs l) from ⟨ho.1, by
    rcases ho.2 with h | ⟨g, cap, cur, e, hb', r⟩
    · exact .inl h
    · exact .inr ⟨g, cap, cur, e, by simp at hb'; omega, r⟩⟩)
  have hc1 : w1.cell? ⟨w.heap.size, 1, none⟩ = some (.slice A l.length c) := cell_below hb (by go_simp)
  clear ho hb
  go_wp2
  have HO2 := Lib.hid (show OwnL w.heap.size w w1 v (l ++ ((l.zip u).take 0).filterMap fun p => if 0 < p.2 then some ⟨p.1.b, p.1.a, wrap64 (-p.1.m)⟩ else none) from ⟨by simpa using HO.out, HB1.out, HB1.out.size⟩)
  go_loopw [5, 6, 7, 14] (fun v _ _ i wr => ∃ k : Nat, k ≤ l.length ∧ i = .int .i64 k ∧ Hid (OwnL w.heap.size w wr v (l ++ ((l.zip u).take k).filterMap fun p => if 0 < p.2 then some ⟨p.1.b, p.1.a, wrap64 (-p.1.m)⟩ else none))) (fun _ _ _ i _ => l.length - (intOf i).toNat)
  case atStart => exact ⟨0, by omega, rfl, HO2⟩
  case round =>
    obtain ⟨k, hk, rfl, HZ⟩ := hrel
    by_cases hlt : k < l.length
    · have hlt2 : k < u.length := by have := HU.out; omega
      obtain ⟨b, o, rfl, g1, g2, g3⟩ := (H.out.below HZ.out.below).nat k hlt
      obtain ⟨b', o', rfl, g4⟩ := (H'.out.below HZ.out.below).nat k hlt2
      have hz := World.block_lt_of_cell? _ _ g4
      dsimp only at hz
      have Hf := Lib.hid (filterMap_take (fun p : Lk × Int => if 0 < p.2 then some (⟨p.1.b, p.1.a, wrap64 (-p.1.m)⟩ : Lk) else none) _ _ _ (zipl_take l u k hlt hlt2))
      have Hlen := Lib.hid (filterMap_len (fun p : Lk × Int => if 0 < p.2 then some (⟨p.1.b, p.1.a, wrap64 (-p.1.m)⟩ : Lk) else none) ((l.zip u).take k))
      generalize hz0 : ((l.zip u).take k).filterMap (fun p : Lk × Int => if 0 < p.2 then some (⟨p.1.b, p.1.a, wrap64 (-p.1.m)⟩ : Lk) else none) = z at *
      clear hz0
      generalize hq : gl l k = q at *
      generalize hy : gi u k = y at *
      clear hq hy
      by_cases hy0 : 0 < y
      · have Hs := Lib.hid (show (l ++ z) ++ [⟨q.b, q.a, wrap64 (-q.m)⟩] = l ++ (((l.zip u).take (k + 1)).filterMap (fun p : Lk × Int => if 0 < p.2 then some (⟨p.1.b, p.1.a, wrap64 (-p.1.m)⟩ : Lk) else none)) by rw [Hf.out]; simp [hy0])
        have HL2 := Lib.hid (show (l ++ z).length + 1 ≤ 1000000 by have := Hlen.out; simp at this ⊢; omega)
        have hbs := HZ.out.hB
        go_wp2_with (at_builtin; refine app_one rfl _ _ 22 39 (.agg #[.int .i64 0, .int .i64 0, .int .i64 0]) 3 24 rfl Try.underlying22 info39 rfl (by omega) u5 _ _ (lkc ⟨q.b, q.a, wrap64 (-q.m)⟩) rfl rfl (by simp) rfl (lk_one _) w.heap.size (HZ.out.alloc _).row (HZ.out.alloc _).hB (by have := HL2.out; omega) (by have := HL2.out; unfold maxLen; omega) ?_; intro v1 w2 ho hg _; have HG := Lib.hid hg; have HO3 := Lib.hid ho; clear ho hg)
        go_roundw
        case rel => exact ⟨k + 1, by omega, by go_num, Lib.hid (by rw [← Hs.out]; exact (HZ.out.alloc _).appended HO3.out HG.out)⟩
        case measure => simp [intOf]; omega
      · have Hs := Lib.hid (show l ++ z = l ++ (((l.zip u).take (k + 1)).filterMap (fun p : Lk × Int => if 0 < p.2 then some (⟨p.1.b, p.1.a, wrap64 (-p.1.m)⟩ : Lk) else none)) by rw [Hf.out]; simp [hy0])
        go_wp2
        go_roundw
        case rel => exact ⟨k + 1, by omega, by go_num, Lib.hid (by rw [← Hs.out]; exact HZ.out.alloc _)⟩
        case measure => simp [intOf]; omega
    · obtain rfl : k = l.length := by omega
      have e : l ++ (((l.zip u).take l.length).filterMap (fun p : Lk × Int => if 0 < p.2 then some (⟨p.1.b, p.1.a, wrap64 (-p.1.m)⟩ : Lk) else none)) = rigidL l u := by
        rw [List.take_of_length_le (by simp; omega)]; rfl
      have HE := Lib.hid e
      clear e
      go_wp2
      go_ret
      exact ⟨_, rfl, by rw [← HE.out]; exact HZ.out.row, HZ.out.below⟩
end Go.Proofs.Ytmhiiomejopaoaa
