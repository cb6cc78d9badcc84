/- The flow walks: Prove, most, Most, Least. -/
import Derived.Test.YtmhiiomejopaoaaGreatDoorK9
import Derived.Test.YtmhiiomejopaoaaGreatDoorM0
namespace Go.Proofs.YtmhiiomejopaoaaGreatDoor
set_option linter.all false
set_option maxRecDepth 100000
open Go.RowKit

theorem asked_ok {n : Int} {l : List Lk} {w : List Int} (h : askedI n l w = 0) : checkL n l = 0 ∧ weightsB n w = true := by
  unfold askedI at h
  by_cases h1 : checkL n l = 0
  · by_cases h2 : weightsB n w
    · exact ⟨h1, h2⟩
    · simp [h1, h2] at h
  · simp [h1] at h
theorem weights_len {n : Int} {w : List Int} (h : weightsB n w = true) : (w.length : Int) = n := by
  simp only [weightsB, Bool.and_eq_true, decide_eq_true_eq] at h
  exact h.2.1
def proveP (F : Nat) (n : Int) (l : List Lk) (w : List Int) : Option (List Int × Int) := if askedI n l w = 0 then bestP F n.toNat l w else some ([], askedI n l w)
def mostV (l : List Lk) (r : List Int × Int) : Int × Int := if r.2 = 0 then (costI l r.1, 0) else (0, r.2)
def MostP (F : Nat) (n : Int) (l : List Lk) (w : List Int) : Option (Int × Int) := if askedI n l w = 0 then (bestP F n.toNat l w).map (mostV l) else some (0, askedI n l w)
def LeastP (F : Nat) (n : Int) (l : List Lk) (w : List Int) : Option (Int × Int) := (MostP F n l (turnedL w)).map fun r => (wrap64 (-r.1), r.2)
theorem best_len {F n : Nat} {l : List Lk} {w : List Int} {r : List Int × Int} (h : bestP F n l w = some r) (h0 : r.2 = 0) : r.1.length = l.length := by
  unfold bestP at h
  split at h
  · obtain ⟨s, h1, rfl⟩ := Option.map_eq_some_iff.1 h
    cases s with
    | none => simp [bestR] at h0
    | some s =>
      have key : ∀ k v (s0 s : St), goN F l n k v s0 = some (some s) → s.2.1.length = s0.2.1.length := by
        intro k
        induction k with
        | zero => intro v s0 s e; cases e
        | succ k ih =>
          intro v s0 s e
          obtain ⟨k', hk, hc⟩ := goN_cases e
          cases hk
          rcases hc with ⟨_, e⟩ | ⟨_, _, e⟩ | ⟨_, _, _, e⟩ | ⟨_, _, t, e1, e2⟩
          · cases e; rfl
          · exact ih _ _ _ e
          · cases e
          · rw [ih _ _ _ e2, (sendN_lengths e1).2.1]
      simp [bestR, key _ _ _ _ h1]
  · cases h; simp at h0

/-- A net in a box, behind a call that only makes blocks. -/
theorem boxed {w w1 : World} {n : Int} {s : Value} (hb : Below (w.alloc (.cells #[.int .i64 n, s] 24)).heap.size (w.alloc (.cells #[.int .i64 n, s] 24)) w1) : Below w.heap.size w w1 ∧ w1.cell? ⟨w.heap.size, 0, none⟩ = some (.int .i64 n) ∧ w1.cell? ⟨w.heap.size, 1, none⟩ = some s ∧ w.heap.size < w1.heap.size := by
  have h := hb.size
  simp at h
  refine ⟨below_trans bel hb, cell_below hb (by go_simp), cell_below hb (by go_simp), by omega⟩
set_option maxRecDepth 100000 in
set_option maxHeartbeats 1000000 in
theorem prove_any (F : Nat) (r : List Int × Int) (n : Int) (A : Option Addr) (c : Nat) (l : List Lk) (B : Option Addr) (d : Nat) (x : List Int) (w : World) (hl : l.length ≤ 1000) (hx : x.length ≤ 1000000) (h : LksAt w A l) (h' : IntsAt w B x) (hb : proveP F n l x = some r) :
    Calls Tryz.prog 41 #[.agg #[.int .i64 n, .slice A l.length c], .slice B x.length d] w fun e w' => ∃ v, e = .returned (.tuple #[v, .int .i64 r.2]) ∧ IntsV w' v r.1 ∧ Below w.heap.size w w' := by
  have HA := Lib.hid h
  have HX := Lib.hid h'
  clear h h'
  by_cases ha : askedI n l x = 0
  · have hb' : bestP F n.toNat l x = some r := by rw [proveP, if_pos ha] at hb; exact hb
    have hok := check_ok (asked_ok ha).1
    have HW := Lib.hid (weights_len (asked_ok ha).2)
    have hcast : ((n.toNat : Nat) : Int) = n := by have := hok.n1; omega
    have HBB := Lib.hid (fun W h1 h2 => best_any F r n.toNat A c l B d x W (by have := hok.n1; omega) (by have := hok.n2; omega) hl (by have := HW.out; omega) h1 h2 (by rw [hcast]; exact fun k hk => (hok.lk k hk).1) hb')
    rw [hcast] at HBB
    have hc' : (askedI n l x != 0) = false := by simpa using ha
    have HH := Lib.hid ha
    clear ha hb hb' hok hcast
    go_enter Tryz.func41, Tryz.ntmps41
    go_wp2_with (go_at_call 36; refine (asked_any n A c l B d x _ (by omega) (by omega) (HA.out.alloc _) (HX.out.alloc _)).mono ?_; rintro e w1 ⟨rfl, hb⟩; have HB := Lib.hid (boxed hb).1; obtain ⟨c0, c1, lw⟩ := (boxed hb).2; clear hb)
    refine (HBB.out _ (HA.out.below HB.out) (HX.out.below HB.out)).mono ?_
    rintro e w2 ⟨v, rfl, hv, hb2⟩
    have HV := Lib.hid hv
    clear hv
    go_wp2
    go_ret2
    exact ⟨_, rfl, HV.out, below_trans HB.out hb2⟩
  · have hb' : r = ([], askedI n l x) := by rw [proveP, if_neg ha] at hb; exact (Option.some.inj hb).symm
    have hc' : (askedI n l x != 0) = true := by simpa using ha
    have HH := Lib.hid ha
    have HR := Lib.hid hb'
    clear ha hb hb'
    go_enter Tryz.func41, Tryz.ntmps41
    go_wp2_with (go_at_call 36; refine (asked_any n A c l B d x _ (by omega) (by omega) (HA.out.alloc _) (HX.out.alloc _)).mono ?_; rintro e w1 ⟨rfl, hb⟩; have HB := Lib.hid (boxed hb).1; clear hb)
    go_ret2
    exact ⟨_, by rw [HR.out]; rfl, by rw [HR.out]; exact IntsV.nil _, HB.out⟩
set_option maxRecDepth 100000 in
set_option maxHeartbeats 1000000 in
theorem most_any (F : Nat) (r : List Int × Int) (n : Nat) (A : Option Addr) (c : Nat) (l : List Lk) (B : Option Addr) (d : Nat) (x : List Int) (w : World) (hn0 : 0 < n) (hn : n ≤ 1000000) (hl : l.length ≤ 1000) (hx : x.length = n) (h : LksAt w A l) (h' : IntsAt w B x) (hr : ∀ k ∈ l, InR n k) (hb : bestP F n l x = some r) :
    Calls Tryz.prog 37 #[.agg #[.int .i64 n, .slice A l.length c], .slice B x.length d] w fun e w' => e = .returned (.tuple #[.int .i64 (mostV l r).1, .int .i64 (mostV l r).2]) ∧ Below w.heap.size w w' := by
  have HBB := Lib.hid (best_any F r n A c l B d x (w.alloc (.cells #[.int .i64 n, .slice A l.length c] 24)) hn0 hn hl hx (h.alloc _) (h'.alloc _) hr hb)
  have HL := Lib.hid (best_len hb)
  have HA := Lib.hid h
  have HX := Lib.hid hx
  clear h h' hr hb hx
  by_cases h0 : r.2 = 0
  · have hc' : (r.2 != 0) = false := by simpa using h0
    have H0 := Lib.hid h0
    clear h0
    go_enter Tryz.func37, Tryz.ntmps37
    go_wp2_with (go_at_call 64; refine HBB.out.mono ?_; rintro e w1 ⟨v, rfl, ⟨A2, c2, rfl, hv, _⟩, hb⟩; have HV := Lib.hid hv; have HB := Lib.hid (boxed hb).1; obtain ⟨c0, c1, lw⟩ := (boxed hb).2; clear hb hv)
    refine (cost_any n A c l A2 c2 r.1 w1 (by omega) (HL.out H0.out) (HA.out.below HB.out) HV.out).mono ?_
    rintro e w2 ⟨rfl, hb2⟩
    go_wp2
    go_ret2
    exact ⟨by simp [mostV, H0.out], below_trans HB.out hb2⟩
  · have hc' : (r.2 != 0) = true := by simpa using h0
    have H0 := Lib.hid h0
    clear h0
    go_enter Tryz.func37, Tryz.ntmps37
    go_wp2_with (go_at_call 64; refine HBB.out.mono ?_; rintro e w1 ⟨v, rfl, ⟨A2, c2, rfl, hv, _⟩, hb⟩; have HB := Lib.hid (boxed hb).1; clear hb hv)
    go_ret2
    exact ⟨by simp [mostV, H0.out], HB.out⟩
set_option maxRecDepth 100000 in
set_option maxHeartbeats 1000000 in
theorem Most_any (F : Nat) (r : Int × Int) (n : Int) (A : Option Addr) (c : Nat) (l : List Lk) (B : Option Addr) (d : Nat) (x : List Int) (w : World) (hl : l.length ≤ 1000) (hx : x.length ≤ 1000000) (h : LksAt w A l) (h' : IntsAt w B x) (hb : MostP F n l x = some r) :
    Calls Tryz.prog 14 #[.agg #[.int .i64 n, .slice A l.length c], .slice B x.length d] w fun e w' => e = .returned (.tuple #[.int .i64 r.1, .int .i64 r.2]) ∧ Below w.heap.size w w' := by
  have HA := Lib.hid h
  have HX := Lib.hid h'
  clear h h'
  by_cases ha : askedI n l x = 0
  · rw [MostP, if_pos ha] at hb
    obtain ⟨r', hb', rfl⟩ := Option.map_eq_some_iff.1 hb
    have hok := check_ok (asked_ok ha).1
    have HW := Lib.hid (weights_len (asked_ok ha).2)
    have hcast : ((n.toNat : Nat) : Int) = n := by have := hok.n1; omega
    have HBB := Lib.hid (fun W h1 h2 => most_any F r' n.toNat A c l B d x W (by have := hok.n1; omega) (by have := hok.n2; omega) hl (by have := HW.out; omega) h1 h2 (by rw [hcast]; exact fun k hk => (hok.lk k hk).1) hb')
    rw [hcast] at HBB
    have hc' : (askedI n l x != 0) = false := by simpa using ha
    have HH := Lib.hid ha
    clear ha hb hb' hok hcast
    go_enter Tryz.func14, Tryz.ntmps14
    go_wp2_with (go_at_call 36; refine (asked_any n A c l B d x _ (by omega) (by omega) (HA.out.alloc _) (HX.out.alloc _)).mono ?_; rintro e w1 ⟨rfl, hb⟩; have HB := Lib.hid (boxed hb).1; obtain ⟨c0, c1, lw⟩ := (boxed hb).2; clear hb)
    refine (HBB.out _ (HA.out.below HB.out) (HX.out.below HB.out)).mono ?_
    rintro e w2 ⟨rfl, hb2⟩
    go_wp2
    go_ret2
    exact ⟨rfl, below_trans HB.out hb2⟩
  · have hb' : r = (0, askedI n l x) := by rw [MostP, if_neg ha] at hb; exact (Option.some.inj hb).symm
    have hc' : (askedI n l x != 0) = true := by simpa using ha
    have HH := Lib.hid ha
    have HR := Lib.hid hb'
    clear ha hb hb'
    go_enter Tryz.func14, Tryz.ntmps14
    go_wp2_with (go_at_call 36; refine (asked_any n A c l B d x _ (by omega) (by omega) (HA.out.alloc _) (HX.out.alloc _)).mono ?_; rintro e w1 ⟨rfl, hb⟩; have HB := Lib.hid (boxed hb).1; clear hb)
    go_ret2
    exact ⟨by rw [HR.out]; rfl, HB.out⟩
theorem turned_length (x : List Int) : (turnedL x).length = x.length := by simp [turnedL]
theorem turned_own {w : World} {b : Nat} {v : Value} {x : List Int} (h : w.ownsRow b 3 1 v x.length (ints (turnedL x))) : w.ownsRow b 3 1 v (turnedL x).length (ints (turnedL x)) := by rw [turned_length]; exact h
set_option maxRecDepth 100000 in
set_option maxHeartbeats 1000000 in
theorem Least_any (F : Nat) (r : Int × Int) (n : Int) (A : Option Addr) (c : Nat) (l : List Lk) (B : Option Addr) (d : Nat) (x : List Int) (w : World) (hl : l.length ≤ 1000) (hx : x.length ≤ 1000000) (h : LksAt w A l) (h' : IntsAt w B x) (hb : LeastP F n l x = some r) :
    Calls Tryz.prog 15 #[.agg #[.int .i64 n, .slice A l.length c], .slice B x.length d] w fun e w' => e = .returned (.tuple #[.int .i64 r.1, .int .i64 r.2]) ∧ Below w.heap.size w w' := by
  have HA := Lib.hid h
  have HX := Lib.hid h'
  clear h h'
  obtain ⟨s, hs, rfl⟩ := Option.map_eq_some_iff.1 hb
  have HM := Lib.hid (fun A2 c2 W h1 h2 => Most_any F s n A c l A2 c2 (turnedL x) W hl (by rw [turned_length]; exact hx) h1 h2 hs)
  rw [turned_length] at HM
  clear hb hs
  go_enter Tryz.func15, Tryz.ntmps15
  go_upto_region 1 with fail
  go_region_held3 (fun w' => w'.cell? ⟨w.heap.size, 0, none⟩ = some (.int .i64 n) ∧ w'.cell? ⟨w.heap.size, 1, none⟩ = some (.slice A l.length c)) (first | exact ⟨cell_below hb2 c0, cell_below hb2 c1⟩ | exact ⟨c0, c1⟩ | (constructor <;> go_simp; done)) (first | (go_at_call 38; refine (turned_any B d x _ hx ?hh).mono ?_; (case hh => exact HX.out.alloc _); rintro e w1 ⟨v, rfl, ho, hb⟩; have HO := Lib.hid ho; have HB := Lib.hid (boxed (below_undrew hb)).1; obtain ⟨c0, c1, lw⟩ := (boxed (below_undrew hb)).2; obtain ⟨A2, c2, rfl, hv, _⟩ := own_intsV (turned_own ho); rw [turned_length]; have HV := Lib.hid hv; clear hb ho hv) | (go_at_call 14; refine (HM.out A2 c2 _ (HA.out.below HB.out) HV.out).mono ?_; rintro e w2 ⟨rfl, hb2⟩))
  all_goals
    go_wp2
    go_ret2
    exact ⟨rfl, below_trans HB.out hb2⟩
end Go.Proofs.YtmhiiomejopaoaaGreatDoor
