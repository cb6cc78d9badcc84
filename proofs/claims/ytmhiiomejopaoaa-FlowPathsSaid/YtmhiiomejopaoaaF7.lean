/- The flow walks, seventh part. -/
import Derived.Test.YtmhiiomejopaoaaF6
namespace Go.Proofs.Ytmhiiomejopaoaa
set_option linter.all false
open Go.RowKit

/-- What is owned and not empty lies in a row. -/
theorem own_form {w : World} {base n : Nat} {v : Value} {l : List Int} (h : w.ownsRow base 3 1 v n (ints l)) (h0 : 0 < n) : ∃ g c, v = .slice (some ⟨g, 0, none⟩) n c ∧ base ≤ g ∧ RowI w g l := by
  rcases h.2 with ⟨_, h1⟩ | ⟨g, cap, cur, rfl, hb, hh, hc, _⟩
  · omega
  · exact ⟨g, cap, rfl, hb, own_rowi h⟩

def moveU (left : List Int) (p : Lk × Int) : List Int :=
  si (si left p.1.b (wrap64 (gi left p.1.b - p.2))) p.1.a (wrap64 (gi (si left p.1.b (wrap64 (gi left p.1.b - p.2))) p.1.a + p.2))
def leftOf (l : List Lk) (w u : List Int) : List Int := (l.zip u).foldl moveU w
def carriesB (l : List Lk) (w u : List Int) : Bool := !(leftOf l w u).any (· != 0)
theorem moveU_length (s : List Int) (p : Lk × Int) : (moveU s p).length = s.length := by simp [moveU, si]
theorem foldl_moveU_length (l : List (Lk × Int)) : ∀ s : List Int, (l.foldl moveU s).length = s.length := by
  induction l with
  | nil => intro s; rfl
  | cons k l ih => intro s; rw [List.foldl_cons, ih, moveU_length]
theorem zipl_take (l : List Lk) (x : List Int) (k : Nat) (h1 : k < l.length) (h2 : k < x.length) : (l.zip x).take (k + 1) = (l.zip x).take k ++ [(gl l k, gi x k)] := by
  rw [List.take_succ_eq_append_getElem (by simp; omega)]; simp [gi, gl, List.getD_eq_getElem?_getD, h1, h2]
theorem TestsInt.of_same {fn : FuncId} {p : Int → Bool} (h : ∀ (a : Int) (w : World), Calls Try.prog fn #[.int .i64 a] w fun e w' => e = .returned (.bool (p a)) ∧ w = w') (l : List Int) (w : World) : TestsInt fn #[] p l w :=
  fun y W _ _ => (h y W).mono fun e W' ⟨h1, h2⟩ => ⟨h1, h2 ▸ Below.refl _ _⟩
theorem tn (i : Int) (h : 0 ≤ i) : ((i.toNat : Nat) : Int) = i := by omega
set_option maxRecDepth 100000 in
set_option maxHeartbeats 1000000 in
theorem carries_any (n : Int) (A : Option Addr) (c : Nat) (l : List Lk) (C : Option Addr) (f : Nat) (x : List Int) (B : Option Addr) (d : Nat) (u : List Int) (w : World) (hl : l.length ≤ 1000000) (hx : x.length ≤ 1000000) (hx0 : 0 < x.length) (hu : l.length ≤ u.length)
    (h : LksAt w A l) (h1 : IntsAt w C x) (h2 : IntsAt w B u) (hnil : C = none → x.length = 0 ∧ f = 0) (hr : ∀ k ∈ l, InR x.length k) :
    Calls Try.prog 88 #[.agg #[.int .i64 n, .slice A l.length c], .slice C x.length f, .slice B u.length d] w fun e w' => e = .returned (.bool (carriesB l x u)) ∧ Below w.heap.size w w' := by
  have H := Lib.hid h
  have H1 := Lib.hid h1
  have H2 := Lib.hid h2
  have HN := Lib.hid hnil
  have HR := Lib.hid hr
  clear h h1 h2 hnil hr
  go_enter Try.func88, Try.ntmps88
  go_wp2_with (go_at_call 97; refine (clone_ints C f x _ hx HN.out (H1.out.alloc _)).mono ?_; rintro e w1 ⟨v, rfl, ho, hb⟩; obtain ⟨g, cc, rfl, hg, hrow⟩ := own_form ho hx0; have HB1 := Lib.hid (below_trans (bel : Below w.heap.size w _) hb); have HG := Lib.hid hg; have HROW := Lib.hid hrow; obtain ⟨hbc, hbf⟩ := bcell hb; clear ho hb hg hrow)
  clear hbc hbf
  have hB0 := HB1.out.size
  have hg0 : w.heap.size < g := by have := HG.out; simp at this; omega
  go_loopw [8, 9, 15] (fun _ _ i wr => ∃ k : Nat, k ≤ l.length ∧ i = .int .i64 k ∧ Hid (RowI wr g (((l.zip u).take k).foldl moveU x)) ∧ Hid (Below w.heap.size w wr)) (fun _ _ i _ => l.length - (intOf i).toNat)
  case atStart => exact ⟨0, by omega, rfl, HROW, HB1⟩
  case round =>
    obtain ⟨k, hk, rfl, HZ, HB⟩ := hrel
    have Hlen := Lib.hid (foldl_moveU_length ((l.zip u).take k) x)
    generalize hz : ((l.zip u).take k).foldl moveU x = z at HZ Hlen
    have HZE := Lib.hid hz
    clear hz
    by_cases hlt : k < l.length
    · have hlt2 : k < u.length := by omega
      obtain ⟨b, o, rfl, g1, g2, g3⟩ := (H.out.below HB.out).nat k hlt
      obtain ⟨b', o', rfl, g4'⟩ := H2.out.nat k hlt2
      have hbl := World.block_lt_of_cell? _ _ g4'
      have g4 := cell_below HB.out g4'
      clear g4'
      dsimp only at hbl
      have hzz := HZ.out.lt
      obtain ⟨i1, i2, i3, i4⟩ := HR.out _ (gl_mem (l := l) (i := k) (by omega) (by omega))
      have Hf := Lib.hid (show ((l.zip u).take (k + 1)).foldl moveU x = moveU z (gl l k, gi u k) by rw [zipl_take l u k hlt hlt2, List.foldl_append, HZE.out]; rfl)
      generalize hq : gl l k = q at *
      generalize hy : gi u k = y at *
      have HQ := Lib.hid hq
      have HY := Lib.hid hy
      clear hq hy
      have hBs := HB.out.size
      obtain ⟨w2, hw2⟩ : ∃ w2, w2 = wr.alloc (.cells #[.int .i64 q.a, .int .i64 q.b, .int .i64 q.m] 39) := ⟨_, rfl⟩
      have d0 : w2.cell? ⟨wr.heap.size, 0, none⟩ = some (.int .i64 q.a) := by rw [hw2]; go_simp
      have d1 : w2.cell? ⟨wr.heap.size, 1, none⟩ = some (.int .i64 q.b) := by rw [hw2]; go_simp
      have d3 : w2.cell? ⟨b', o' + k, none⟩ = some (.int .i64 y) := by rw [hw2]; exact cell_alloc _ g4
      have R2 := Lib.hid (show RowI w2 g z by rw [hw2]; exact HZ.out.alloc _)
      have B2 := Lib.hid (show Below w.heap.size w w2 by rw [hw2]; exact HB.out.alloc hBs _)
      have c2 := R2.out.cell q.b.toNat (by have := Hlen.out; omega)
      have f2 := R2.out.frozen q.b.toNat
      rw [tn _ i3] at c2
      go_wp2
      rw [← hw2]
      have hgs : wr.heap.size ≠ g := by omega
      clear hw2
      go_still_tail 11, (by kernel_rfl)
      go_wp2
      obtain ⟨w3, hw3⟩ : ∃ w3, w3 = (w2.setCell ⟨g, q.b.toNat, none⟩ (.int .i64 (wrap64 (gi z q.b - y)))).drew := ⟨_, rfl⟩
      rw [← hw3]
      have e0 : w3.cell? ⟨wr.heap.size, 0, none⟩ = some (.int .i64 q.a) := by rw [hw3]; exact cell_otherd d0 (by simp only; omega)
      have e3 : w3.cell? ⟨b', o' + k, none⟩ = some (.int .i64 y) := by rw [hw3]; exact cell_otherd d3 (by simp only; omega)
      have R3 := Lib.hid (show RowI w3 g (si z q.b (wrap64 (gi z q.b - y))) by rw [hw3]; exact R2.out.set _ _)
      have B3 := Lib.hid (show Below w.heap.size w w3 by rw [hw3]; exact (B2.out.setCell (by simp only; omega) _).drew)
      generalize hzz' : si z q.b (wrap64 (gi z q.b - y)) = z' at R3
      have HZ' := Lib.hid hzz'
      clear hzz' hw3
      have c3 := R3.out.cell q.a.toNat (by rw [← HZ'.out]; have := Hlen.out; simp [si]; omega)
      have f3 := R3.out.frozen q.a.toNat
      rw [tn _ i1] at c3
      clear c2 f2 d0 d1 d3
      go_still_tail 11, (by kernel_rfl)
      go_wp2
      go_roundw
      case rel => exact ⟨k + 1, by omega, by go_num, Lib.hid (by rw [Hf.out]; unfold moveU; rw [HZ'.out]; exact R3.out.set _ _), Lib.hid ((B3.out.setCell (by simp only; omega) _).drew)⟩
      case measure => simp [intOf]; omega
    · obtain rfl : k = l.length := by omega
      have hzz : leftOf l x u = z := by rw [← HZE.out, List.take_of_length_le (by simp; omega)]; rfl
      have HZZ := Lib.hid hzz
      clear hzz
      have HLL := Lib.hid (show z.length = x.length from Hlen.out)
      have eqlen : z.length = x.length := Hlen.out
      have hcall := containsFunc_int 114 #[] (fun v => v != 0) (some ⟨g, 0, none⟩) cc z wr (by omega) HZ.out.ints cf114 (TestsInt.of_same carries1_any z wr)
      rw [eqlen] at hcall
      have HC := Lib.hid hcall
      clear hcall eqlen
      go_wp2_with (go_at_call 94; refine HC.out.mono ?_; rintro e w2 ⟨rfl, hb⟩)
      go_ret
      exact ⟨ret_bool (by rw [carriesB, HZZ.out]), HB.out.trans (hb.mono HB.out.size)⟩
end Go.Proofs.Ytmhiiomejopaoaa
