/- The walks of texts: Print. -/
import Derived.Test.YtmhiiomejopaoaaGreatDoorFP
import Derived.Test.YtmhiiomejopaoaaGreatDoorH1
import Derived.Lib.AppendIntMem
import Derived.Lib.SmallJoins
import Derived.Deep.RegionHeld3
import Derived.Deep.DeepCutAuto
import Derived.StillTailTactics
namespace Go.Proofs.YtmhiiomejopaoaaGreatDoor
set_option linter.all false
set_option maxRecDepth 100000
open Go.RowKit

/-- The library's variables that a reading reads hold something. -/
def Vars (w : World) : Prop := (∃ ev, w.cell? ⟨0, 0, none⟩ = some ev ∧ (ev = .nilIface ∨ ∃ te pe, ev = .iface te pe)) ∧ (∃ ev, w.cell? ⟨1, 0, none⟩ = some ev ∧ (ev = .nilIface ∨ ∃ te pe, ev = .iface te pe)) ∧ ∃ m, w.cell? ⟨2, 0, none⟩ = some (.int .i64 m)
theorem Vars.below {w w1 : World} (h : Vars w) (hb : Below w.heap.size w w1) : Vars w1 := by
  obtain ⟨⟨e, h2, h2'⟩, ⟨f, h3, h3'⟩, m, h1⟩ := h
  exact ⟨⟨e, cell_below hb h2, h2'⟩, ⟨f, cell_below hb h3, h3'⟩, m, cell_below hb h1⟩
/-- The library's table of powers of ten stands, and will. -/
def Tab (w : World) : Prop := ∀ w', Below w.heap.size w w' → Lib.TabIs Tryz.prog w' "internal/strconv.uint64pow10" .u64 Lib.pow10Tab
theorem Tab.here {w : World} (h : Tab w) : Lib.TabIs Tryz.prog w "internal/strconv.uint64pow10" .u64 Lib.pow10Tab := h w (Below.refl _ _)
theorem Tab.below {w w1 : World} (h : Tab w) (hb : Below w.heap.size w w1) : Tab w1 := fun w' h' => h w' (hb.trans (h'.mono hb.size))
theorem grow_below (w : World) (k : Nat) (os : Array Obj) : Below w.heap.size w (Sort.grow (w.drewN k) os) := by
  refine ⟨rfl, rfl, rfl, ?_, ?_⟩
  · show w.heap.size ≤ (w.heap ++ os).size
    simp
  · intro j hj
    show (w.heap ++ os)[j]? = w.heap[j]?
    rw [Array.getElem?_append_left hj]
theorem itoa_any (n : Int) (h : Small n) (w : World) (hT : Tab w) :
    Calls Tryz.prog 55 #[.int .i64 n] w fun e w' => e = .returned (.string ⟨(Lib.itoa n).toArray⟩) ∧ Below w.heap.size w w' :=
  (strconv_Itoa n (by have := h.1; omega) (by have := h.2; omega) w hT.here).mono fun _ _ ⟨he, k, os, hw⟩ => ⟨he, by rw [hw]; exact grow_below w k os⟩
theorem atoi_good (s : ByteArray) (hs : s.size ≤ 100000) (v : Int) (h : Lib.atoiAll s.data.toList = .ok v) (w : World) :
    Calls Tryz.prog 30 #[.string s] w fun e w' => e = .returned (.tuple #[.int .i64 v, .nilIface]) ∧ Below w.heap.size w w' := by
  refine (strconv_Atoi_ok s (by omega) v h w).mono ?_
  rintro e w' ⟨rfl, h | ⟨t, h⟩⟩
  · exact ⟨rfl, by rw [h]; exact Below.refl _ _⟩
  · exact ⟨rfl, by rw [h]; exact Joins.below_bytesWorld _ _ _ _ (Nat.le_refl _)⟩
theorem atoi_bad (s : ByteArray) (hs : s.size ≤ 100000) (h : ∀ v, Lib.atoiAll s.data.toList ≠ .ok v) (w : World) (hV : Vars w) :
    Calls Tryz.prog 30 #[.string s] w fun e w' => (∃ v p, e = .returned (.tuple #[.int .i64 v, .iface 105 p])) ∧ Below w.heap.size w w' := by
  obtain ⟨⟨e1, h1, h1'⟩, ⟨e2, h2, h2'⟩, -⟩ := hV
  refine Lib.NumEnd.casesOn (motive := fun r => Lib.atoiAll s.data.toList = r → Calls Tryz.prog 30 #[.string s] w fun e w' => (∃ v p, e = .returned (.tuple #[.int .i64 v, .iface 105 p])) ∧ Below w.heap.size w w') (Lib.atoiAll s.data.toList) (fun v ha => absurd ha (h v)) (fun ha => ?_) (fun ha => ?_) rfl
  · refine Calls.mono (Any.strconv_Atoi_syntax laysC172 s (by omega) ha e1 w h1 h1') ?_
    rintro e w' ⟨N, rfl, -, -, hb⟩
    exact ⟨⟨_, _, rfl⟩, hb⟩
  · refine Calls.mono (strconv_Atoi_range s (by omega) ha e2 w h2 h2') ?_
    rintro e w' ⟨N, rfl, -, -, hb⟩
    exact ⟨⟨_, _, rfl⟩, hb⟩
theorem trim_any (s : List UInt8) (hs : s.length ≤ 100000) (w : World) : Calls Tryz.prog 29 #[.string ⟨s.toArray⟩, .string ⟨#[10]⟩] w fun e w' => e = .returned (.string ⟨(bareL s).toArray⟩) ∧ w = w' :=
  (strings_TrimSuffix ⟨s.toArray⟩ ⟨#[10]⟩ w (by show s.toArray.size ≤ _; simp; omega)).mono fun _ _ ⟨h1, h2⟩ => ⟨h1, h2.symm⟩
theorem idx_any (s : List UInt8) (w : World) : Calls Tryz.prog 57 #[.string ⟨s.toArray⟩, .int .u8 10] w fun e w' => e = .returned (.int .i64 (Lib.indexByte s 10)) ∧ w = w' :=
  (strings_IndexByte ⟨s.toArray⟩ 10 w).mono fun _ _ ⟨h1, h2⟩ => ⟨h1, h2.symm⟩
theorem split_any (s : List UInt8) (hs : s.length ≤ 100000) (w : World) (hV : Vars w) : Calls Tryz.prog 28 #[.string ⟨s.toArray⟩, .string ⟨#[32]⟩] w fun e w' => e = .returned (.slice (some ⟨w.heap.size, 0, none⟩) (fieldsL s).length (fieldsL s).length) ∧ w' = w.alloc (.cells ((fieldsL s).map Value.string).toArray 9) := by
  obtain ⟨-, -, m, hm⟩ := hV
  have h := strings_Split (bs s) sep32 m w (by show s.toArray.size < _; simp; omega) hm (by decide)
  have hl : (fieldsL s).length = Lib.countB (bs s) sep32 + 1 := Lib.splitB_all sep32 (by decide) 0 _ (bs s) rfl
  rw [hl]
  exact h
theorem add_str (x y : List UInt8) (hx : x.length ≤ 1000000) (hy : y.length ≤ 1000000) (W : World) : (Op.stringOp .add ⟨x.toArray⟩ ⟨y.toArray⟩).run Tryz.prog W = .ok (.string ⟨(x ++ y).toArray⟩) W := by
  have h1 : (x.length : Int) ≤ 8388608 := by omega
  have h2 : (y.length : Int) ≤ 8388608 := by omega
  exact run_string_add_lists W x y h1 h2
theorem numsB_take (l : List Int) (k : Nat) (h : k < l.length) : numsB (l.take (k + 1)) = numsB (l.take k) ++ ([32] ++ Lib.itoa (gi l k)) := by
  have e : gi l k = l[k] := by unfold gi; simp [List.getD_eq_getElem?_getD, List.getElem?_eq_getElem h]
  unfold numsB
  rw [List.take_succ_eq_append_getElem h, List.flatMap_append, e]
  simp
theorem gi_memN (l : List Int) (k : Nat) (h : k < l.length) : gi l k ∈ l := by
  have e : gi l k = l[k] := by unfold gi; simp [List.getD_eq_getElem?_getD, List.getElem?_eq_getElem h]
  rw [e]
  exact List.getElem_mem h
set_option maxHeartbeats 2000000 in
theorem line_any (word : List UInt8) (A : Option Addr) (c : Nat) (l : List Int) (w : World) (hw : word.length ≤ 10) (hl : l.length ≤ 10) (hs : ∀ n ∈ l, Small n) (h : IntsAt w A l) (hT : Tab w) :
    Calls Tryz.prog 26 #[.string ⟨word.toArray⟩, .slice A l.length c] w fun e w' => e = .returned (.string ⟨(lineN word l).toArray⟩) ∧ Below w.heap.size w w' := by
  have HH := Lib.hid h
  have HT := Lib.hid hT
  have HS := Lib.hid hs
  have HW := Lib.hid hw
  have HLB := Lib.hid (fun k => numsB_len (l.take k) (fun n hn => hs n (List.mem_of_mem_take hn)))
  clear h hT hs hw
  go_enter Tryz.func26, Tryz.ntmps26
  go_wp2
  go_loopw [0, 6, 9, 11, 12, 13, 14, 15, 16, 17, 18] (fun s _ i _ _ _ _ _ _ _ _ wr => ∃ (k : Nat) (z : List UInt8), i = .int .i64 (k : Int) ∧ k ≤ l.length ∧ s = .string ⟨z.toArray⟩ ∧ Hid (z = word ++ numsB (l.take k)) ∧ Hid (Below w.heap.size w wr)) (fun _ _ i _ _ _ _ _ _ _ _ _ => l.length - (intOf i).toNat)
  case atStart => exact ⟨0, word, rfl, by omega, rfl, Lib.hid (by simp [numsB]), Lib.hid bel⟩
  case round =>
    obtain ⟨k, z, rfl, hk, rfl, HZ, HB⟩ := hrel
    have hzl : z.length ≤ 200 := by
      rw [HZ.out]
      have h1 := HLB.out k
      have h2 := HW.out
      simp at h1 ⊢
      omega
    by_cases hlt : k < l.length
    · have t1 : decide ((k : Int) < (l.length : Int)) = true := decide_eq_true (by omega)
      obtain ⟨b, o, rfl, c0⟩ := HH.out.below HB.out k (by omega) (by omega)
      have hsm := HS.out _ (gi_memN l k hlt)
      have HI := Lib.hid (itoa_any (gi l k) hsm wr (HT.out.below HB.out))
      have HN := Lib.hid (numsB_take l k hlt)
      have hil := itoa_len hsm
      generalize gi l k = n at *
      generalize Lib.itoa n = I at *
      have q1 := add_str [32] I (by simp) (by omega)
      have HP := Lib.hid (show ([32] ++ I).length ≤ 14 by simp; omega)
      obtain ⟨P, hP⟩ : ∃ P, [32] ++ I = P := ⟨_, rfl⟩
      rw [hP] at q1 HN HP
      have q2 := add_str z P (by omega) (by have := HP.out; omega)
      have HZ2 := Lib.hid (show z ++ P = word ++ numsB (l.take (k + 1)) by rw [HN.out, HZ.out]; simp)
      obtain ⟨z2, hz2⟩ : ∃ z2, z ++ P = z2 := ⟨_, rfl⟩
      rw [hz2] at q2 HZ2
      clear hP hz2 hsm hzl hil
      simp at c0
      go_wp2_with (go_at_call 55; refine HI.out.mono ?_; rintro e w1 ⟨rfl, hb⟩; have HB1 := Lib.hid (below_trans HB.out hb); clear hb)
      go_roundw
      case rel => exact ⟨k + 1, z2, by simp, by omega, rfl, HZ2, HB1⟩
      case measure => simp [intOf]; omega
    · obtain rfl : k = l.length := by omega
      have t1 : decide ((l.length : Int) < (l.length : Int)) = false := decide_eq_false (by omega)
      have q1 := add_str z [10] (by omega) (by simp)
      have HE := Lib.hid (show z ++ [10] = lineN word l by rw [HZ.out, List.take_length]; rfl)
      obtain ⟨z2, hz2⟩ : ∃ z2, z ++ [10] = z2 := ⟨_, rfl⟩
      rw [hz2] at q1 HE
      clear hz2 hzl
      go_wp2
      go_ret
      exact ⟨by rw [HE.out]; rfl, HB.out⟩

theorem heap_new (W : World) (o : Obj) : (W.alloc o).heap[W.heap.size]? = some o := heap_alloc_new W o
theorem ints_of_heap {w : World} {g T : Nat} {l : List Int} (h : w.heap[g]? = some (.cells (ints l).toArray T (0, 0))) : IntsAt w (some ⟨g, 0, none⟩) l := by
  intro i h0 hi
  refine ⟨g, 0, rfl, ?_⟩
  have := cell_of_heap h (0 + i.toNat)
  rw [this]
  have hi' : i.toNat < l.length := by omega
  simp [ints, gi, List.getD_eq_getElem?_getD, List.getElem?_eq_getElem hi']
theorem heap_next (W : World) (o o' : Obj) : ((W.alloc o).alloc o').heap[W.heap.size + 1]? = some o' := by simpa using heap_new (W.alloc o) o'
theorem line1 (n : Int) (h : Small n) (g : Nat) (w : World) (hg : w.heap[g]? = some (.cells #[.int .i64 n] 3 (0, 0))) (hT : Tab w) :
    Calls Tryz.prog 26 #[.string ⟨#[110, 111, 100, 101, 115]⟩, .slice (some ⟨g, 0, none⟩) 1 1] w fun e w' => e = .returned (.string ⟨(lineN nodesW [n]).toArray⟩) ∧ Below w.heap.size w w' :=
  line_any nodesW (some ⟨g, 0, none⟩) 1 [n] w (by decide) (by simp) (by intro x hx; simp at hx; subst hx; exact h) (ints_of_heap hg) hT
theorem line3 (k : Lk) (h : Small k.a ∧ Small k.b ∧ Small k.m) (g : Nat) (w : World) (hg : w.heap[g]? = some (.cells #[.int .i64 k.a, .int .i64 k.b, .int .i64 k.m] 3 (0, 0))) (hT : Tab w) :
    Calls Tryz.prog 26 #[.string ⟨#[108, 105, 110, 107]⟩, .slice (some ⟨g, 0, none⟩) 3 3] w fun e w' => e = .returned (.string ⟨(lkL k).toArray⟩) ∧ Below w.heap.size w w' :=
  line_any linkW (some ⟨g, 0, none⟩) 3 [k.a, k.b, k.m] w (by decide) (by simp) (by
    intro x hx
    simp at hx
    rcases hx with rfl | rfl | rfl
    · exact h.1
    · exact h.2.1
    · exact h.2.2) (ints_of_heap hg) hT
theorem Print_bad (n : Int) (A : Option Addr) (c : Nat) (l : List Lk) (w : World) (hl : l.length ≤ 9223372036854775807) (h : LksAt w A l) (hb : checkL n l ≠ 0) :
    Calls Tryz.prog 7 #[.agg #[.int .i64 n, .slice A l.length c]] w fun e w' => e = .returned (.tuple #[.string ⟨#[]⟩, .int .i64 (checkL n l)]) ∧ Below w.heap.size w w' := by
  have HC := Lib.hid (check_any n A c l (w.alloc (.cells #[.int .i64 n, .slice A l.length c] 24)) hl (h.alloc _))
  generalize checkL n l = e0 at *
  have t1 : (e0 != 0) = true := by rw [bne_iff_ne]; exact hb
  clear h hb
  go_enter Tryz.func7, Tryz.ntmps7
  go_wp2_with (go_at_call 25; refine HC.out.mono ?_; rintro e w1 ⟨rfl, hb⟩; have HB1 := Lib.hid (below_trans (bel : Below w.heap.size w (w.alloc _)) hb); clear hb)
  go_ret2
  exact ⟨by first | rfl | simp, HB1.out⟩
theorem links_take (l : List Lk) (k : Nat) (h : k < l.length) : (l.take (k + 1)).flatMap lkL = (l.take k).flatMap lkL ++ lkL (gl l k) := by
  have e : gl l k = l[k] := by unfold gl; simp [List.getD_eq_getElem?_getD, List.getElem?_eq_getElem h]
  rw [List.take_succ_eq_append_getElem h, List.flatMap_append, e]
  simp
theorem gl_memN (l : List Lk) (k : Nat) (h : k < l.length) : gl l k ∈ l := by
  have e : gl l k = l[k] := by unfold gl; simp [List.getD_eq_getElem?_getD, List.getElem?_eq_getElem h]
  rw [e]
  exact List.getElem_mem h
set_option maxHeartbeats 2000000 in
theorem Print_good (n : Int) (A : Option Addr) (c : Nat) (l : List Lk) (w : World) (h : LksAt w A l) (hok : NetOk n l) (hT : Tab w) :
    Calls Tryz.prog 7 #[.agg #[.int .i64 n, .slice A l.length c]] w fun e w' => e = .returned (.tuple #[.string ⟨(printL n l).toArray⟩, .int .i64 0]) ∧ Below w.heap.size w w' := by
  have HC := Lib.hid (check_any n A c l (w.alloc (.cells #[.int .i64 n, .slice A l.length c] 24)) (by have := hok.l1; omega) (h.alloc _))
  rw [ok_check hok] at HC
  have HH := Lib.hid h
  have HT := Lib.hid hT
  obtain ⟨s1, s2⟩ := hok.small
  have HL1 := Lib.hid (fun g w => line1 n s1 g w)
  have HS := Lib.hid s2
  have hl := hok.l1
  have HN1 := Lib.hid (show (lineN nodesW [n]).length ≤ 30 by
    have := numsB_len [n] (by intro x hx; simp at hx; subst hx; exact s1)
    unfold lineN
    simp [nodesW] at this ⊢
    omega)
  have HP := Lib.hid (show printL n l = lineN nodesW [n] ++ l.flatMap lkL from rfl)
  generalize printL n l = P at *
  generalize lineN nodesW [n] = P1 at *
  clear h hT s1 s2 hok
  go_enter Tryz.func7, Tryz.ntmps7
  go_wp2_with (first | (go_at_call 25; refine HC.out.mono ?_; rintro e w1 ⟨rfl, hb⟩; have HB1 := Lib.hid (below_trans (bel : Below w.heap.size w (w.alloc _)) hb); have HX1 := Lib.hid ((hb.block w.heap.size (by simp)).trans (heap_new w _)); have c0 := cell_of_heap HX1.out 0; have c1 := cell_of_heap HX1.out 1; simp at c0 c1; clear hb HC) | (go_at_call 26; refine (HL1.out _ _ (heap_new _ _) (HT.out.below (HB1.out.alloc HB1.out.size _))).mono ?_; rintro e w2 ⟨rfl, hb⟩; have HB2 := Lib.hid (below_trans (HB1.out.alloc HB1.out.size _) hb); have HX2 := Lib.hid ((hb.block w.heap.size (by have := (Array.getElem?_eq_some_iff.1 HX1.out).1; simp; omega)).trans ((Below.heap_alloc _ _ _ (Array.getElem?_eq_some_iff.1 HX1.out).1).trans HX1.out)); have d0 := cell_of_heap HX2.out 0; have d1 := cell_of_heap HX2.out 1; simp at d0 d1; clear hb HL1))
  go_loopw [5, 20] (fun s i wr => ∃ (k : Nat) (z : List UInt8), i = .int .i64 (k : Int) ∧ k ≤ l.length ∧ s = .string ⟨z.toArray⟩ ∧ Hid (z = P1 ++ (l.take k).flatMap lkL) ∧ Hid (Below w.heap.size w wr)) (fun _ i _ => l.length - (intOf i).toNat)
  case atStart => exact ⟨0, P1, rfl, by omega, rfl, Lib.hid (by simp), HB2⟩
  case round =>
    obtain ⟨k, z, rfl, hk, rfl, HZ, HB⟩ := hrel
    have hzl : z.length ≤ 900000 := by
      rw [HZ.out]
      have h1 := links_len (l.take k) (fun x hx => HS.out x (List.mem_of_mem_take hx))
      have h2 := HN1.out
      have h3 : (l.take k).length ≤ 260 := by simp; omega
      rw [List.length_append]
      omega
    by_cases hlt : k < l.length
    · have t1 : decide ((k : Int) < (l.length : Int)) = true := decide_eq_true (by omega)
      obtain ⟨b, o, rfl, g1, g2, g3⟩ := HH.out.below HB.out k (by omega) (by omega)
      have hsm := HS.out _ (gl_memN l k hlt)
      have HL3 := Lib.hid (line3 (gl l k) hsm)
      have HN := Lib.hid (links_take l k hlt)
      have hkl := lkL_len hsm
      generalize hx : gl l k = x at *
      obtain ⟨xa, xb, xm⟩ := x
      simp only at g1 g2 g3 HL3
      generalize lkL ⟨xa, xb, xm⟩ = I at *
      have q1 := add_str z I (by omega) (by omega)
      have HZ2 := Lib.hid (show z ++ I = P1 ++ (l.take (k + 1)).flatMap lkL by rw [HN.out, HZ.out]; simp)
      obtain ⟨z2, hz2⟩ : ∃ z2, z ++ I = z2 := ⟨_, rfl⟩
      rw [hz2] at q1 HZ2
      clear hz2 hsm hzl hkl hx
      simp at g1 g2 g3
      have HB3 := Lib.hid ((HB.out.alloc HB.out.size (.cells #[.int .i64 xa, .int .i64 xb, .int .i64 xm] 51)).alloc (by have := HB.out.size; simp; omega) (.cells #[.int .i64 xa, .int .i64 xb, .int .i64 xm] 3))
      go_wp2_with (go_at_call 26; refine (HL3.out _ _ (heap_next wr _ _) (HT.out.below HB3.out)).mono ?_; rintro e w3 ⟨rfl, hb⟩; have HB4 := Lib.hid (below_trans HB3.out hb); clear hb)
      go_roundw
      case rel => exact ⟨k + 1, z2, by simp, by omega, rfl, HZ2, HB4⟩
      case measure => simp [intOf]; omega
    · obtain rfl : k = l.length := by omega
      have t1 : decide ((l.length : Int) < (l.length : Int)) = false := decide_eq_false (by omega)
      have HE := Lib.hid (show z = P by rw [HZ.out, HP.out, List.take_length])
      clear hzl
      go_wp2
      go_ret2
      exact ⟨by rw [HE.out]; rfl, HB.out⟩
end Go.Proofs.YtmhiiomejopaoaaGreatDoor
