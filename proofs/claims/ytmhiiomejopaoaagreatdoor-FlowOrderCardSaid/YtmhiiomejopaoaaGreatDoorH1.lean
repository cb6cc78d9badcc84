/- The heap of ways: put. -/
import Derived.Test.YtmhiiomejopaoaaGreatDoorF9
import Derived.Test.YtmhiiomejopaoaaGreatDoorB4
namespace Go.Proofs.YtmhiiomejopaoaaGreatDoor
set_option linter.all false
set_option maxRecDepth 100000
open Go.RowKit

def lessB (x y : Wy) : Bool := decide (x.far < y.far)
set_option maxHeartbeats 400000 in
theorem less_any (x y : Wy) (w : World) :
    Calls Tryz.prog 110 #[wyv x, wyv y] w fun e w' => e = .returned (.bool (lessB x y)) ∧ Below w.heap.size w w' := by
  unfold lessB wyv
  go_enter Tryz.func110, Tryz.ntmps110
  go_wp2
  go_ret
  exact ⟨rfl, bel⟩

def swapW (l : List Wy) (i j : Nat) : List Wy := (l.set i (gw l j)).set j (gw l i)
def siftUp : Nat → List Wy → Nat → List Wy
  | 0, l, _ => l
  | f + 1, l, i => if i = 0 then l else if lessB (gw l i) (gw l ((i - 1) / 2)) then siftUp f (swapW l i ((i - 1) / 2)) ((i - 1) / 2) else l
def putW (l : List Wy) (x : Wy) : List Wy := siftUp (l.length + 1) (l ++ [x]) l.length
theorem swapW_length (l : List Wy) (i j : Nat) : (swapW l i j).length = l.length := by simp [swapW]

/-- A heap at p holds l; its row lies in blocks from B on. -/
structure HeapAt (w : World) (B p : Nat) (v : Value) (l : List Wy) : Prop where
  cell : w.heap[p]? = some (.cells #[v, .func (.func 110) #[] #[]] 148 (0, 0))
  row : w.ownsRow B 128 4 v l.length (wycs l)
theorem HeapAt.ne {w : World} {B p : Nat} {v : Value} {l : List Wy} (h : HeapAt w B p v l) : v.ownBlock ≠ some p := by
  intro e
  rcases h.row.2 with ⟨rfl, _⟩ | ⟨g, cap, cur, rfl, _, hh, _⟩
  · simp [Value.ownBlock] at e
  · simp only [Value.ownBlock, Option.some.injEq] at e
    subst e
    have := h.cell
    rw [hh] at this
    injection this with this
    injection this with _ ht
    cases ht
theorem HeapAt.lt {w : World} {B p : Nat} {v : Value} {l : List Wy} (h : HeapAt w B p v l) : p < w.heap.size := (Array.getElem?_eq_some_iff.1 h.cell).1
theorem HeapAt.c0 {w : World} {B p : Nat} {v : Value} {l : List Wy} (h : HeapAt w B p v l) : w.cell? ⟨p, 0, none⟩ = some v := by simp [World.cell?, h.cell]
theorem HeapAt.c1 {w : World} {B p : Nat} {v : Value} {l : List Wy} (h : HeapAt w B p v l) : w.cell? ⟨p, 1, none⟩ = some (.func (.func 110) #[] #[]) := by simp [World.cell?, h.cell]
theorem HeapAt.below {w w' : World} {B p : Nat} {v : Value} {l : List Wy} (h : HeapAt w B p v l) (hb : Below w.heap.size w w') : HeapAt w' B p v l :=
  ⟨(hb.block p h.lt).trans h.cell, h.row.kept (row := none) ⟨hb.os, hb.tape, hb.output, hb.size, fun k hk _ => hb.block k hk⟩ (by cases v.ownBlock <;> simp)⟩
theorem HeapAt.drew {w : World} {B p : Nat} {v : Value} {l : List Wy} (h : HeapAt w B p v l) : HeapAt w.drew B p v l := ⟨h.cell, h.row⟩
theorem HeapAt.swap {w : World} {B p g n c : Nat} {l : List Wy} (h : HeapAt w B p (.slice (some ⟨g, 0, none⟩) n c) l) (i : Nat) (hi : i < l.length) (x : Wy) :
    HeapAt ((((w.setCell ⟨g, i * 4, none⟩ (.int .i64 x.node)).setCell ⟨g, i * 4 + 1, none⟩ (.int .i64 x.far)).setCell ⟨g, i * 4 + 2, none⟩ (.int .i64 x.link)).setCell ⟨g, i * 4 + 3, none⟩ (.bool x.back)) B p (.slice (some ⟨g, 0, none⟩) n c) (l.set i x) := by
  have hne : p ≠ g := fun e => h.ne (by rw [e]; rfl)
  refine ⟨?_, ?_⟩
  · have k := fun (W : World) (j : Nat) (u : Value) => Below.heap_setCell W ⟨g, j, none⟩ u p hne
    rw [k, k, k, k]; exact h.cell
  · have hl : l.length = n := by
      have := h.row.1
      rcases h.row.2 with ⟨e, _⟩ | ⟨g', cap, cur, e, _⟩
      · cases e
      · cases e; rfl
    have h' := h.row
    rw [hl] at h'
    have := ((((h'.stored (i * 4) (.int .i64 x.node)).1.stored (i * 4 + 1) (.int .i64 x.far)).1.stored (i * 4 + 2) (.int .i64 x.link)).1.stored (i * 4 + 3) (.bool x.back)).1
    rw [← wycs_set l i x hi] at this
    rw [List.length_set, hl]
    exact this
theorem HeapAt.fr {w : World} {B p g n c : Nat} {l : List Wy} {w0 : World} {S : Nat → Prop} (_ : HeapAt w B p (.slice (some ⟨g, 0, none⟩) n c) l) (hf : Fr w0 w S) (hg : S g ∨ w0.heap.size ≤ g) (i : Nat) (x : Wy) :
    Fr w0 ((((w.setCell ⟨g, i * 4, none⟩ (.int .i64 x.node)).setCell ⟨g, i * 4 + 1, none⟩ (.int .i64 x.far)).setCell ⟨g, i * 4 + 2, none⟩ (.int .i64 x.link)).setCell ⟨g, i * 4 + 3, none⟩ (.bool x.back)) S :=
  (((hf.set _ _ hg).set _ _ hg).set _ _ hg).set _ _ hg

theorem grownBy_setCell' (W : World) (b : Nat) (v : Value) : W.grownBy (W.setCell ⟨b, 0, none⟩ v) (some b) := grown_set (grown_refl W _) _ _ (.inl rfl)
theorem grown_heap {W w1 : World} {r : Option Nat} {p : Nat} {o : Obj} (hg : W.grownBy w1 r) (h : W.heap[p]? = some o) (hp : p < W.heap.size) (hne : r ≠ some p) : w1.heap[p]? = some o := (hg.block p hp (fun e => hne e.symm)).trans h
theorem old_heap (w : World) (o o' : Obj) {p : Nat} {x : Obj} (hp : p < w.heap.size) (h : w.heap[p]? = some x) : ((w.alloc o).drew.alloc o').heap[p]? = some x := by
  rw [Below.heap_alloc _ o' p (by simp; omega)]
  exact (Below.heap_alloc w o p hp).trans h
theorem cell_of_heap {w : World} {p : Nat} {cs : Array Value} {t : TypeId} (h : w.heap[p]? = some (.cells cs t (0, 0))) (j : Nat) : w.cell? ⟨p, j, none⟩ = cs[j]? := by simp [World.cell?, h]
theorem frozen_of_heap {w : World} {p : Nat} {cs : Array Value} {t : TypeId} (h : w.heap[p]? = some (.cells cs t (0, 0))) (j : Nat) : w.frozen? ⟨p, j, none⟩ = false := by simp [World.frozen?, h]
set_option maxRecDepth 100000 in
set_option maxHeartbeats 2000000 in
theorem put_any (p B : Nat) (v : Value) (l : List Wy) (x : Wy) (w : World) (h : HeapAt w B p v l) (hl : l.length ≤ 1000000) (hB : B ≤ w.heap.size) :
    Calls Tryz.prog 111 #[.pointer (some ⟨p, 0, none⟩), wyv x] w fun e w' => e = .returned (.tuple #[]) ∧ (∃ v', HeapAt w' B p v' (putW l x) ∧ ∀ b, v'.ownBlock = some b → v.ownBlock = some b ∨ w.heap.size ≤ b) ∧ Fr w w' (fun k => k = p ∨ some k = v.ownBlock) := by
  obtain ⟨i0, hi, hzz⟩ := Option.map_eq_some_iff.1 info122
  simp only [Prod.mk.injEq] at hzz
  obtain ⟨hz0, hz1, hz2⟩ := hzz
  have hpl := (Array.getElem?_eq_some_iff.1 h.cell).1
  have hp0 : w.cell? ⟨p, 0, none⟩ = some v := by simp [World.cell?, h.cell]
  have hp1 : w.cell? ⟨p, 1, none⟩ = some (.func (.func 110) #[] #[]) := by simp [World.cell?, h.cell]
  have hpf : w.frozen? ⟨p, 0, none⟩ = false := by simp [World.frozen?, h.cell]
  have H := Lib.hid h
  have HI := Lib.hid hi
  have Hz0 := Lib.hid hz0
  have Hz1 := Lib.hid hz1
  have Hz2 := Lib.hid hz2
  clear h hi hz0 hz1 hz2
  unfold wyv
  go_enter Tryz.func111, Tryz.ntmps111
  go_upto_region 1 with fail
  go_cut [] (fun wx => ∃ g cap, Hid (HeapAt wx B p (.slice (some ⟨g, 0, none⟩) (l.length + 1) cap) (l ++ [x])) ∧ Hid (Fr w wx (fun k => k = p ∨ some k = v.ownBlock)) ∧ Hid (v.ownBlock = some g ∨ w.heap.size ≤ g))
  case first =>
    go_region_law ((refine step_append_lies _ rfl (.tmp 10) (.tmp 12) 146 rfl B 128 i0 (wyv ⟨0, 0, 0, false⟩) 4 32 Tryz.underlying146 HI.out Hz0.out Hz1.out Hz2.out rfl (by omega) v l.length (wycs l) (by simp [Act.eval, Act.put]) ((H.out.row.alloc _).alloc _) ⟨w.heap.size + 1, 0, none⟩ 1 1 (wyc x) (by simp [Act.eval, Act.put]) rfl (news_new _ (wyc x) 128 _ (by simp)) (wyc_one x) (by omega) (by unfold maxLen; omega) (by omega) (by simp; omega) (w.heap.size + 2) (by simp) ?_; intro g cap w1 hown1 hgrow hat hlt; have hcp := grown_heap hgrow (old_heap w _ _ hpl H.out.cell) (by simp; omega) H.out.ne; have e0 := cell_of_heap hcp 0; have f0 := frozen_of_heap hcp 0))
    all_goals
      go_wp2_with fail
      go_meet
      refine ⟨g, cap, Lib.hid ⟨?_, ?_⟩, Lib.hid ?_, Lib.hid ?_⟩
      · simp [World.setCell, Array.getElem?_modify, hcp]
      · have hgp : g ≠ p := by
          intro e
          rcases hown1.2 with ⟨e', _⟩ | ⟨g', cap', cur, e', _, hh, _⟩
          · cases e'
          · cases e'
            rw [e, hcp] at hh
            injection hh with hh
            injection hh with _ ht
            cases ht
        have := hown1.kept (grownBy_setCell' w1 p (.slice (some ⟨g, 0, none⟩) (l.length + 1) cap)) (.inr (by simpa [Value.ownBlock] using hgp))
        rw [List.length_append]
        simpa [wycs] using this
      · exact ((((Fr.refl w _).alloc _).drew.alloc _).grown hgrow (fun i e => .inl (.inr e.symm))).set _ _ (.inl (.inl rfl))
      · rcases hat with h | h
        · exact .inl h
        · exact .inr (by omega)
  case rest =>
    obtain ⟨g, cap, H1, F1, G1⟩ := hcut
    have hc0 := H1.out.c0
    clear hp0 hp1 hpf hpl
    go_wp2
    clear hc0
    go_loopw [4, 5] (fun i _ wr => ∃ (k f : Nat) (l' : List Wy), i = .int .i64 k ∧ Hid (k < l.length + 1) ∧ Hid (k < f) ∧ Hid (l'.length = l.length + 1) ∧ Hid (siftUp f l' k = putW l x) ∧ Hid (HeapAt wr B p (.slice (some ⟨g, 0, none⟩) (l.length + 1) cap) l') ∧ Hid (Fr w wr (fun k => k = p ∨ some k = v.ownBlock))) (fun i _ _ => (intOf i).toNat)
    case atStart => exact ⟨l.length, l.length + 1, l ++ [x], rfl, Lib.hid (by omega), Lib.hid (by omega), Lib.hid (by simp), Lib.hid rfl, H1, F1⟩
    case round =>
      obtain ⟨k, f, l', rfl, Hk, Hf, Hl, Hs, HH, HF⟩ := hrel
      have hkl := Hk.out
      have hkf := Hf.out
      have hl' := Hl.out
      obtain ⟨f, rfl⟩ : ∃ f', f = f' + 1 := ⟨f - 1, by omega⟩
      by_cases hk0 : k = 0
      · subst hk0
        have hfin : l' = putW l x := by rw [← Hs.out]; simp [siftUp]
        have HFIN := Lib.hid hfin
        clear hfin hl' hkl hkf
        go_wp2
        go_end0
        exact ⟨rfl, ⟨_, by rw [← HFIN.out]; exact HH.out, fun b hb => by cases hb; exact G1.out⟩, HF.out⟩
      · have hk1 : (0 : Int) < (k : Int) := by omega
        obtain ⟨u, hu⟩ : ∃ u : Nat, u = (k - 1) / 2 := ⟨_, rfl⟩
        have huu : ((k : Int) - 1) / 2 = (u : Int) := by omega
        have huk : u < k := by omega
        have hs2 : siftUp (f + 1) l' k = if lessB (gw l' k) (gw l' u) then siftUp f (swapW l' k u) u else l' := by
          rw [siftUp, if_neg hk0, ← hu]
        have HS2 := Lib.hid hs2
        have Hu := Lib.hid hu
        clear hs2 hu hk0
        have hrow := own_roww HH.out.row
        obtain ⟨a1, a2, a3, a4⟩ := hrow.cells k (by omega)
        obtain ⟨b1, b2, b3, b4⟩ := hrow.cells u (by omega)
        have q0 := HH.out.c0
        have q1 := HH.out.c1
        have hkI : (k : Int) < (l.length : Int) + 1 := by omega
        have huI : (u : Int) < (l.length : Int) + 1 := by omega
        have HROW := Lib.hid hrow
        have HL := Lib.hid hl'
        clear hrow hl'
        cases hb : lessB (gw l' k) (gw l' u)
        · have hfin : l' = putW l x := by rw [← Hs.out, HS2.out, hb]; rfl
          have HFIN := Lib.hid hfin
          clear hfin
          go_wp2
          go_still_tail 18, (by kernel_rfl)
          go_wp2_with (go_at_call 110; refine (less_any (gw l' k) (gw l' u) _).mono ?_; rintro e w2 ⟨rfl, hbl⟩)
          refine bodyPost_ret (results_none rfl _ _ _) rfl ?_
          exact ⟨rfl, ⟨_, by rw [← HFIN.out]; exact HH.out.drew.below hbl, fun b hb => by cases hb; exact G1.out⟩, HF.out.drew.below hbl⟩
        · have hs3 : siftUp f (swapW l' k u) u = putW l x := by rw [← Hs.out, HS2.out, hb]; rfl
          have HS3 := Lib.hid hs3
          clear hs3
          go_wp2
          go_still_tail 18, (by kernel_rfl)
          go_wp2_with (go_at_call 110; refine (less_any (gw l' k) (gw l' u) _).mono ?_; rintro e w2 ⟨rfl, hbl⟩)
          have HH2 := Lib.hid (HH.out.drew.below hbl)
          have HF2 := Lib.hid (HF.out.drew.below hbl)
          clear a1 a2 a3 a4 b1 b2 b3 b4 q0 q1 hbl
          have hrow := own_roww HH2.out.row
          have hlen := HL.out
          obtain ⟨a1, a2, a3, a4⟩ := hrow.cells k (by omega)
          obtain ⟨b1, b2, b3, b4⟩ := hrow.cells u (by omega)
          have q0 := HH2.out.c0
          have f1 := hrow.frozen (k * 4)
          have f2 := hrow.frozen (k * 4 + 1)
          have f3 := hrow.frozen (k * 4 + 2)
          have f4 := hrow.frozen (k * 4 + 3)
          have f5 := hrow.frozen (u * 4)
          have f6 := hrow.frozen (u * 4 + 1)
          have f7 := hrow.frozen (u * 4 + 2)
          have f8 := hrow.frozen (u * 4 + 3)
          have hpg : p ≠ g := fun e => HH2.out.ne (by rw [e]; rfl)
          clear hrow hlen
          have HS1 := HH2.out.swap k (by have := HL.out; omega) (gw l' u)
          have HS4 := Lib.hid (HS1.swap u (by have := HL.out; simp; omega) (gw l' k))
          have hgS : some g = v.ownBlock ∨ w.heap.size ≤ g := by rcases G1.out with h | h; exact .inl h.symm; exact .inr h
          have HF4 := Lib.hid (HS1.fr (HH2.out.fr HF2.out (by rcases hgS with h | h; exact .inl (.inr h); exact .inr h) k (gw l' u)) (by rcases hgS with h | h; exact .inl (.inr h); exact .inr h) u (gw l' k))
          clear HS1 hgS
          go_region
          go_wp2
          go_roundw
          case rel => exact ⟨u, f, swapW l' k u, rfl, Lib.hid (by omega), Lib.hid (by omega), Lib.hid (by rw [swapW_length]; exact HL.out), HS3, Lib.hid HS4.out.drew, Lib.hid HF4.out.drew⟩
          case measure => simp [intOf]; omega
end Go.Proofs.YtmhiiomejopaoaaGreatDoor
