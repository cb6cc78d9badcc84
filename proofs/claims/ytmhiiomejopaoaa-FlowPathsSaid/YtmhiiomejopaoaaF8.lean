/- The flow walks, eighth part: solution, bounds, rigid, leads. -/
import Derived.Test.YtmhiiomejopaoaaF7
namespace Go.Proofs.Ytmhiiomejopaoaa
set_option linter.all false
open Go.RowKit

def solutionL (n : Nat) (l : List Lk) : List Int × Bool := settled l (List.replicate n 0)
theorem settled_length (l : List Lk) (x : List Int) : (settled l x).1.length = x.length := settledN_length l _ x
theorem solutionL_length (n : Nat) (l : List Lk) : (solutionL n l).1.length = n := by rw [solutionL, settled_length]; simp
set_option maxHeartbeats 400000 in
theorem solution_yes (n : Nat) (A : Option Addr) (c : Nat) (l : List Lk) (w : World) (hn : n ≤ 1000000) (hl : l.length ≤ 1000000) (h : LksAt w A l) (hr : ∀ k ∈ l, InR n k) (hy : (solutionL n l).2 = true) :
    Calls Try.prog 81 #[.int .i64 (n : Int), .slice A l.length c] w fun e w' => ∃ g, e = .returned (.tuple #[.slice (some ⟨g, 0, none⟩) n n, .bool true]) ∧ w.heap.size ≤ g ∧ RowI w' g (solutionL n l).1 ∧ Below w.heap.size w w' := by
  have hmk := mkInts n hn
  have hs := settled_any l A c (List.replicate n 0) w.heap.size n _ (by omega) (by simp; omega) (h.alloc _) (RowI_made w n) (h.apart (Nat.le_refl _)) (by simpa using hr)
  rw [List.length_replicate] at hs
  have HS := Lib.hid hs
  have HY := Lib.hid hy
  clear h hr hs hy
  go_enter Try.func81, Try.ntmps81
  go_wp2_with (go_at_call 104; refine HS.out.mono ?_; rintro e w1 ⟨rfl, hrow, hg⟩; have HROW := Lib.hid hrow; have HG := Lib.hid hg; have hy2 : (settled l (List.replicate n 0)).snd = true := HY.out; clear hrow hg)
  go_ret2
  exact ⟨w.heap.size, rfl, Nat.le_refl _, HROW.out, below_of_grown (Below.alloc (Below.refl _ _) (Nat.le_refl _) _) HG.out (by simp) (Nat.le_refl _)⟩
set_option maxHeartbeats 400000 in
theorem solution_no (n : Nat) (A : Option Addr) (c : Nat) (l : List Lk) (w : World) (hn : n ≤ 1000000) (hl : l.length ≤ 1000000) (h : LksAt w A l) (hr : ∀ k ∈ l, InR n k) (hy : (solutionL n l).2 = false) :
    Calls Try.prog 81 #[.int .i64 (n : Int), .slice A l.length c] w fun e w' => e = .returned (.tuple #[.slice none 0 0, .bool false]) ∧ Below w.heap.size w w' := by
  have hmk := mkInts n hn
  have hs := settled_any l A c (List.replicate n 0) w.heap.size n _ (by omega) (by simp; omega) (h.alloc _) (RowI_made w n) (h.apart (Nat.le_refl _)) (by simpa using hr)
  rw [List.length_replicate] at hs
  have HS := Lib.hid hs
  have HY := Lib.hid hy
  clear h hr hs hy
  go_enter Try.func81, Try.ntmps81
  go_wp2_with (go_at_call 104; refine HS.out.mono ?_; rintro e w1 ⟨rfl, hrow, hg⟩; have HG := Lib.hid hg; have hy2 : (settled l (List.replicate n 0)).snd = false := HY.out; clear hrow hg)
  go_ret2
  exact ⟨rfl, below_of_grown (Below.alloc (Below.refl _ _) (Nat.le_refl _) _) HG.out (by simp) (Nat.le_refl _)⟩

def boundsL (n : Nat) (l : List Lk) (s : Int) : List Int := (settled l (si (List.replicate n free) s 0)).1
theorem rep_set (n k : Nat) (h : k < n) : (List.replicate k free ++ List.replicate (n - k) 0).set k free = List.replicate (k + 1) free ++ List.replicate (n - (k + 1)) 0 := by
  apply List.ext_getElem?
  intro i
  simp only [List.getElem?_set, List.getElem?_append, List.getElem?_replicate, List.length_append, List.length_replicate]
  repeat' split
  all_goals first | rfl | omega | simp_all
set_option maxRecDepth 100000 in
set_option maxHeartbeats 400000 in
theorem bounds_any (n : Nat) (A : Option Addr) (c : Nat) (l : List Lk) (s : Int) (w : World) (hn : n ≤ 1000000) (hl : l.length ≤ 1000000) (h : LksAt w A l) (hr : ∀ k ∈ l, InR n k) (hs0 : 0 ≤ s) (hs1 : s < n) :
    Calls Try.prog 69 #[.int .i64 (n : Int), .slice A l.length c, .int .i64 s] w fun e w' => ∃ g, e = .returned (.slice (some ⟨g, 0, none⟩) n n) ∧ w.heap.size ≤ g ∧ RowI w' g (boundsL n l s) ∧ Below w.heap.size w w' := by
  have hmk := mkInts n hn
  have H := Lib.hid h
  have HR := Lib.hid hr
  clear h hr
  go_enter Try.func69, Try.ntmps69
  go_wp2
  go_loopw [8, 13] (fun _ i wr => ∃ k : Nat, k ≤ n ∧ i = .int .i64 k ∧ Hid (RowI wr w.heap.size (List.replicate k free ++ List.replicate (n - k) 0)) ∧ Hid (Below w.heap.size w wr)) (fun _ i _ => n - (intOf i).toNat)
  case atStart => exact ⟨0, by omega, rfl, Lib.hid (by simpa using RowI_made w n), Lib.hid bel⟩
  case round =>
    obtain ⟨k, hk, rfl, HZ, HB⟩ := hrel
    by_cases hlt : k < n
    · have c1 := HZ.out.cell k (by simp; omega)
      have f1 := HZ.out.frozen k
      have Hs := Lib.hid (rep_set n k hlt)
      go_wp2
      go_roundw
      case rel => exact ⟨k + 1, by omega, by go_num, Lib.hid (by rw [← Hs.out]; exact HZ.out.set _ _), Lib.hid (HB.out.setCell (by simp) _)⟩
      case measure => simp [intOf]; omega
    · obtain rfl : k = n := by omega
      have e0 : List.replicate k free ++ List.replicate (k - k) 0 = List.replicate k free := by simp
      rw [e0] at HZ
      have c1 := HZ.out.cell s.toNat (by simp; omega)
      have f1 := HZ.out.frozen s.toNat
      have hse := tn s hs0
      have HSE := Lib.hid hse
      clear hse
      have R3 := Lib.hid (HZ.out.set s.toNat 0)
      have hlen : ((List.replicate k free).set s.toNat 0).length = k := by simp
      have hwr : (wr.setCell ⟨w.heap.size, s.toNat, none⟩ (.int .i64 0)).heap.size = wr.heap.size := by simp [World.setCell]
      have B3 := Lib.hid (HB.out.setCell (p := ⟨w.heap.size, s.toNat, none⟩) (Nat.le_refl _) (.int .i64 0))
      have hs := settled_any l A c ((List.replicate k free).set s.toNat 0) w.heap.size k _ (by omega) (by simp; omega) (H.out.below B3.out) R3.out (H.out.apart (Nat.le_refl _)) (by simpa using HR.out)
      rw [hlen] at hs
      have HS := Lib.hid hs
      clear hs hlen hwr
      go_wp2_with (go_at_call 104; refine HS.out.mono ?_; rintro e w1 ⟨rfl, hrow, hg⟩; have HROW := Lib.hid hrow; have HG := Lib.hid hg; clear hrow hg)
      go_ret
      exact ⟨_, rfl, Nat.le_refl _, HROW.out, below_of_grown B3.out HG.out B3.out.size (Nat.le_refl _)⟩

def leadStep (l : List Lk) (s : Int × Int) (i : Int) : Option (Int × Int) :=
  if withinB i 0 ((l.length : Int) - 1) && ((gl l i).a == s.1) then some ((gl l i).b, wrap64 (s.2 + (gl l i).m)) else none
def leadsO (l : List Lk) (s : Int) (path : List Int) : Option (Int × Int) := path.foldlM (leadStep l) (s, 0)
theorem foldM_gi {α : Type} (f : α → Int → Option α) (a : α) (l : List Int) (k : Nat) (h : k < l.length) : (l.take (k + 1)).foldlM f a = ((l.take k).foldlM f a).bind (fun s => f s (gi l k)) := by
  rw [take_gi l k h, List.foldlM_append]
  simp
theorem foldM_none {α : Type} (f : α → Int → Option α) (a : α) (l : List Int) (k : Nat) (h : (l.take k).foldlM f a = none) : l.foldlM f a = none := by
  conv => lhs; rw [← List.take_append_drop k l]
  rw [List.foldlM_append, h]
  rfl
end Go.Proofs.Ytmhiiomejopaoaa
