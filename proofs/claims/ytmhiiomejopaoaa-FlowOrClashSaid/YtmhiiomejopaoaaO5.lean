/- The flow walks: Consistent, Clash. -/
import Derived.Test.YtmhiiomejopaoaaO4
namespace Go.Proofs.Ytmhiiomejopaoaa
set_option linter.all false
open Go.RowKit

theorem lift0 {w w' : World} {X : Obj} {p : Nat} (hb : Below w.heap.size w w') (h : w.heap[p]? = some X) : w'.heap[p]? = some X := (hb.block p (Array.getElem?_eq_some_iff.1 h).1).trans h
theorem lnew {w w' : World} {o : Obj} (hb : Below (w.alloc o).heap.size (w.alloc o) w') : w'.heap[w.heap.size]? = some o := lift0 hb (heap_alloc_new w o)
theorem two {w : World} {p : Nat} {a b : Value} {t : TypeId} (h : w.heap[p]? = some (.cells #[a, b] t (0, 0))) : w.cell? ⟨p, 0, none⟩ = some a ∧ w.cell? ⟨p, 1, none⟩ = some b ∧ p < w.heap.size :=
  ⟨by unfold World.cell?; simp [h], by unfold World.cell?; simp [h], (Array.getElem?_eq_some_iff.1 h).1⟩
def consR (n : Int) (l : List Lk) : Bool × Int := if checkL n l ≠ 0 then (false, checkL n l) else ((solutionL n.toNat l).2, 0)
set_option maxRecDepth 100000 in
set_option maxHeartbeats 1000000 in
theorem Consistent_any (n : Int) (A : Option Addr) (c : Nat) (l : List Lk) (w : World) (hl : l.length ≤ 9223372036854775807) (h : LksAt w A l) :
    Calls Try.prog 58 #[.agg #[.int .i64 n, .slice A l.length c]] w fun e w' => e = .returned (.tuple #[.bool (consR n l).1, .int .i64 (consR n l).2]) ∧ Below w.heap.size w w' := by
  have H := Lib.hid h
  have HK := Lib.hid (check_any n A c l _ hl (h.alloc (.cells #[.int .i64 n, .slice A l.length c] 24)))
  by_cases hc : checkL n l = 0
  · have HE := Lib.hid (show consR n l = ((solutionL n.toNat l).2, 0) by unfold consR; rw [if_neg (by simpa using hc)])
    have hok := check_ok hc
    obtain ⟨N, rfl⟩ : ∃ N : Nat, n = N := ⟨n.toNat, by have := hok.n1; omega⟩
    rw [hc] at HK
    rw [Int.toNat_natCast] at HE
    have hr : ∀ k ∈ l, InR N k := fun k hk => (hok.lk k hk).1
    have hn := hok.n2
    have hl1 := hok.l1
    have HS := Lib.hid (show ∀ W, Below w.heap.size w W → Calls Try.prog 81 #[.int .i64 (N : Int), .slice A l.length c] W fun e w' => (∃ v, e = .returned (.tuple #[v, .bool (solutionL N l).2])) ∧ Below W.heap.size W w' from fun W hW => by
      cases hy : (solutionL N l).2
      · exact (solution_no N A c l W (by omega) (by omega) (h.below hW) hr hy).mono fun e w' ⟨h1, h2⟩ => ⟨⟨_, h1⟩, h2⟩
      · exact (solution_yes N A c l W (by omega) (by omega) (h.below hW) hr hy).mono fun e w' ⟨g, h1, _, _, h2⟩ => ⟨⟨_, h1⟩, h2⟩)
    clear h hc hok hr
    generalize (solutionL N l).2 = y at *
    go_enter Try.func58, Try.ntmps58
    go_wp2_with (first | (go_at_call 53; refine HK.out.mono ?_; rintro e w1 ⟨rfl, hb⟩; have HB1 := Lib.hid (below_trans (bel : Below w.heap.size w (w.alloc _)) hb); obtain ⟨c0, c1, lc⟩ := two (lnew hb); clear hb) | (go_at_call 81; refine (HS.out _ HB1.out).mono ?_; rintro e w2 ⟨⟨v, rfl⟩, hb⟩; have HB2 := Lib.hid (below_trans HB1.out hb); clear hb))
    go_ret2
    exact ⟨by rw [HE.out]; rfl, HB2.out⟩
  · have HE := Lib.hid (show consR n l = (false, checkL n l) by unfold consR; rw [if_pos hc])
    have t : (checkL n l != 0) = true := by rw [bne_iff_ne]; exact hc
    generalize checkL n l = ck at *
    clear h hc
    go_enter Try.func58, Try.ntmps58
    go_wp2_with (first | (go_at_call 53; refine HK.out.mono ?_; rintro e w1 ⟨rfl, hb⟩; have HB1 := Lib.hid (below_trans (bel : Below w.heap.size w (w.alloc _)) hb); clear hb))
    go_ret2
    exact ⟨by rw [HE.out]; rfl, HB1.out⟩
end Go.Proofs.Ytmhiiomejopaoaa
