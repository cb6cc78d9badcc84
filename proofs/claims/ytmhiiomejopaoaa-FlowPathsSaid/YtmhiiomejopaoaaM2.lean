/- The flow walks: kept, lacks. -/
import Derived.Test.YtmhiiomejopaoaaM1
namespace Go.Proofs.Ytmhiiomejopaoaa
set_option linter.all false
open Go.RowKit

def keptN (l : List Lk) (p : Int → Bool) : Nat → List Lk
  | 0 => []
  | k + 1 => if p k then keptN l p k ++ [gl l k] else keptN l p k
def keptL (l : List Lk) (p : Int → Bool) : List Lk := keptN l p l.length
theorem keptN_len (l : List Lk) (p : Int → Bool) : ∀ k, (keptN l p k).length ≤ k
  | 0 => Nat.le_refl _
  | k + 1 => by
    have := keptN_len l p k
    unfold keptN
    split
    · simp; omega
    · omega
theorem keptN_mem (l : List Lk) (p : Int → Bool) : ∀ k, k ≤ l.length → ∀ x ∈ keptN l p k, x ∈ l
  | 0, _, x, h => by simp [keptN] at h
  | k + 1, hk, x, h => by
    unfold keptN at h
    split at h
    · rcases List.mem_append.1 h with h | h
      · exact keptN_mem l p k (by omega) x h
      · obtain rfl := List.mem_singleton.1 h
        exact gl_mem (by omega) (by omega)
    · exact keptN_mem l p k (by omega) x h
theorem keptL_mem {l : List Lk} {p : Int → Bool} {x : Lk} (h : x ∈ keptL l p) : x ∈ l := keptN_mem l p _ (Nat.le_refl _) x h
theorem keptL_len (l : List Lk) (p : Int → Bool) : (keptL l p).length ≤ l.length := keptN_len l p _
/-- What a test of an index owes. -/
def TestsIdx (fn : FuncId) (cap : Array Value) (p : Int → Bool) (n : Nat) (w : World) : Prop :=
  ∀ (i : Nat) (W : World), i < n → Below w.heap.size w W → Calls Try.prog fn (#[.int .i64 i] ++ cap) W fun e W' => e = .returned (.bool (p i)) ∧ Below W.heap.size W W'
set_option maxRecDepth 100000 in
set_option maxHeartbeats 1000000 in
theorem kept_any (fn : FuncId) (cap : Array Value) (p : Int → Bool) (A : Option Addr) (c : Nat) (l : List Lk) (w : World) (hl : l.length ≤ 400000) (h : LksAt w A l) (hcf : ∀ args w, (callFunc fn args).run Try.prog w = .ok (.enter fn args) w) (HC : TestsIdx fn cap p l.length w) :
    Calls Try.prog 89 #[.slice A l.length c, .func (.func fn) #[] cap] w fun e w' => ∃ v, e = .returned v ∧ w'.ownsRow w.heap.size 39 3 v (keptL l p).length (lkcs (keptL l p)) ∧ Below w.heap.size w w' := by
  have H := Lib.hid h
  have HT := Lib.hid HC
  clear h HC
  go_enter Try.func89, Try.ntmps89
  go_wp2
  go_loopw [5, 6, 7, 10] (fun v _ _ i wr => ∃ k : Nat, k ≤ l.length ∧ i = .int .i64 k ∧ Hid (OwnL w.heap.size w wr v (keptN l p k))) (fun _ _ _ i _ => l.length - (intOf i).toNat)
  case atStart => exact ⟨0, by omega, rfl, Lib.hid ⟨World.ownsRow_nil _ _ _ _, Below.refl _ _, Nat.le_refl _⟩⟩
  case round =>
    obtain ⟨k, hk, rfl, HZ⟩ := hrel
    by_cases hlt : k < l.length
    · obtain ⟨b, o, rfl, g1, g2, g3⟩ := (H.out.below HZ.out.below).nat k hlt
      have Hk := Lib.hid (keptN_len l p k)
      generalize hq : gl l k = q at *
      have HQ := Lib.hid hq
      clear hq
      have hbl := HZ.out.below.alloc HZ.out.hB (.cells #[.int .i64 q.a, .int .i64 q.b, .int .i64 q.m] 39)
      have hc := HT.out k _ hlt hbl
      cases hp : p k
      · rw [hp] at hc
        have HC := Lib.hid hc
        have Hs := Lib.hid (show keptN l p (k + 1) = keptN l p k by simp [keptN, hp])
        clear hc hp hbl
        go_wp2_with fail
        refine HC.out.mono ?_
        rintro e w1 ⟨rfl, hb⟩
        have HB := Lib.hid hb
        clear hb
        go_wp2
        go_roundw
        case rel => exact ⟨k + 1, by omega, by go_num, Lib.hid (by rw [Hs.out]; exact (HZ.out.alloc _).calls HB.out)⟩
        case measure => simp [intOf]; omega
      · rw [hp] at hc
        have HC := Lib.hid hc
        have Hs := Lib.hid (show keptN l p (k + 1) = keptN l p k ++ [q] by simp [keptN, hp, HQ.out])
        clear hc hp hbl
        go_wp2_with fail
        refine HC.out.mono ?_
        rintro e w1 ⟨rfl, hb⟩
        have HB := Lib.hid hb
        have e0 : w1.cell? ⟨wr.heap.size, 0, none⟩ = some (.int .i64 q.a) := cell_below hb (by go_simp)
        have e1 : w1.cell? ⟨wr.heap.size, 1, none⟩ = some (.int .i64 q.b) := cell_below hb (by go_simp)
        have e2 : w1.cell? ⟨wr.heap.size, 2, none⟩ = some (.int .i64 q.m) := cell_below hb (by go_simp)
        have hsz := hb.size
        simp at hsz
        clear hb
        have HZ2 := Lib.hid ((HZ.out.alloc (.cells #[.int .i64 q.a, .int .i64 q.b, .int .i64 q.m] 39)).calls HB.out)
        go_wp2_with (at_builtin; refine app_one rfl _ _ 22 39 (.agg #[.int .i64 0, .int .i64 0, .int .i64 0]) 3 24 rfl Try.underlying22 info39 rfl (by omega) u5 _ _ (lkc ⟨q.a, q.b, q.m⟩) rfl rfl rfl rfl (lk_one _) w.heap.size HZ2.out.row HZ2.out.hB (by have := Hk.out; omega) (by have := Hk.out; unfold maxLen; omega) ?_; intro v1 w2 ho hg _; have HG := Lib.hid hg; have HO3 := Lib.hid ho; clear ho hg)
        go_roundw
        case rel => exact ⟨k + 1, by omega, by go_num, Lib.hid (by rw [Hs.out]; exact HZ2.out.appended HO3.out HG.out)⟩
        case measure => simp [intOf]; omega
    · obtain rfl : k = l.length := by omega
      go_wp2
      go_ret
      exact ⟨_, rfl, HZ.out.row, HZ.out.below⟩
theorem u80 : Try.prog.underlying 80 = some (.map 3 4) := Try.underlying80
theorem zero4 (w : World) : (zeroValue 4).run Try.prog w = .ok (.bool false) w := by kernel_rfl
theorem cf105 : ∀ args w, (callFunc 105 args).run Try.prog w = .ok (.enter 105 args) w := fun _ _ => by kernel_rfl
def notIn (S : List Int) (i : Int) : Bool := !S.contains i
set_option maxHeartbeats 400000 in
theorem lacks1_any (i : Int) (b mb : Nat) (S : List Int) (w : World) (h : w.cell? ⟨b, 0, none⟩ = some (.map (some mb))) (hm : MapI w mb (setI S)) :
    Calls Try.prog 105 #[.int .i64 i, .pointer (some ⟨b, 0, none⟩)] w fun e w' => e = .returned (.bool (notIn S i)) ∧ Below w.heap.size w w' := by
  have hl := hm.look u80 (zero4 _) i
  rw [look_set] at hl
  have hb := World.block_lt_of_cell? _ _ h
  dsimp only at hb
  clear hm
  unfold notIn
  generalize S.contains i = q at *
  go_enter Try.func105, Try.ntmps105
  go_wp2
  go_ret
  exact ⟨rfl, bel⟩
end Go.Proofs.Ytmhiiomejopaoaa
