/- The date walks: spans, Union; the reference's Same. -/
import Derived.Test.YteoembjghmgbhaaGreatDoorC4
import Derived.Laws.StructEq
namespace Go.Proofs.YteoembjghmgbhaaGreatDoor
set_option linter.all false
open Go.RowKit

theorem any_gs_false {l : List Sp} {f : Sp → Bool} (h : ∀ j : Nat, j < l.length → f (gs l j) = false) : l.any f = false := by
  rw [List.any_eq_false]
  intro x hx
  obtain ⟨j, hj, rfl⟩ := mem_gs hx
  simp [h j hj]
theorem any_gs_true {l : List Sp} {f : Sp → Bool} {i : Nat} (hk : i < l.length) (h : f (gs l i) = true) : l.any f = true := by
  rw [List.any_eq_true]
  exact ⟨_, gs_mem hk, h⟩
theorem notSpan_any (s : Sp) (w : World) : Calls Tryz.prog 52 #[spv s] w fun e w' => e = .returned (.bool (!spanB s)) ∧ Below w.heap.size w w' := by
  have HSP := Lib.hid (fun W => isSpan_b s W)
  generalize spanB s = b at *
  unfold spv at *
  go_enter Tryz.func52, Tryz.ntmps52
  go_wp2_with (go_at_call 38; refine (HSP.out _).mono ?_; rintro e w1 ⟨rfl, hb⟩; have HB1 := Lib.hid (below_trans (bel : Below w.heap.size w (w.alloc _)) hb); clear hb)
  go_ret
  exact ⟨by cases b <;> rfl, HB1.out⟩
set_option maxRecDepth 100000 in
set_option maxHeartbeats 1000000 in
theorem indexSp_any (A : Option Addr) (c : Nat) (l : List Sp) (w : World) (hl : l.length ≤ 1000000) (h : SpsAt w A l) :
    Calls Tryz.prog 70 #[.slice A l.length c, .func (.func 52) #[] #[]] w fun e w' => (∃ r, e = .returned (.int .i64 r) ∧ decide (0 ≤ r) = l.any (fun s => !spanB s)) ∧ Below w.heap.size w w' := by
  have H := Lib.hid h
  clear h
  go_enter Tryz.func70, Tryz.ntmps70
  go_wp2
  go_loopw [5, 8] (fun _ i wr => ∃ k : Nat, k ≤ l.length ∧ i = .int .i64 k ∧ Hid (∀ j : Nat, j < k → (!spanB (gs l j)) = false) ∧ Below w.heap.size w wr) (fun _ i _ => l.length - (intOf i).toNat)
  case atStart => exact ⟨0, by omega, rfl, Lib.hid (by simp), Below.refl _ _⟩
  case round =>
    obtain ⟨k, hk, rfl, hbad, hB⟩ := hrel
    by_cases hlt : k < l.length
    · obtain ⟨b, o, rfl, g1, g2⟩ := (H.out.below hB).nat k hlt
      cases hp : (!spanB (gs l (k : Int)))
      all_goals
        have Hp := Lib.hid hp
        have HC := Lib.hid (fun W => notSpan_any (gs l (k : Int)) W)
        rw [hp] at HC
        unfold spv at HC
        clear hp
        go_wp2_with (go_at_call 52; refine (HC.out _).mono ?_; rintro e w1 ⟨rfl, hb⟩; have HB1 := Lib.hid (hB.trans (hb.mono hB.size)); clear hb)
      · go_roundw
        case rel =>
          refine ⟨k + 1, by omega, by go_num, Lib.hid fun j hj => ?_, HB1.out⟩
          rcases Nat.lt_succ_iff_lt_or_eq.1 hj with h | rfl
          · exact hbad.out j h
          · exact Hp.out
        case measure => simp [intOf]; omega
      · go_ret
        exact ⟨⟨k, rfl, by rw [any_gs_true hlt Hp.out]; simp⟩, HB1.out⟩
    · go_wp2
      go_ret
      obtain rfl : k = l.length := by omega
      exact ⟨⟨_, rfl, by rw [any_gs_false hbad.out]; rfl⟩, hB⟩
set_option maxHeartbeats 400000 in
theorem containsSp_any (A : Option Addr) (c : Nat) (l : List Sp) (w : World) (hl : l.length ≤ 1000000) (h : SpsAt w A l) :
    Calls Tryz.prog 51 #[.slice A l.length c, .func (.func 52) #[] #[]] w fun e w' => e = .returned (.bool (l.any fun s => !spanB s)) ∧ Below w.heap.size w w' := by
  have hix := Lib.hid (indexSp_any A c l w hl h)
  clear h
  go_enter Tryz.func51, Tryz.ntmps51
  go_wp2_with fail
  refine hix.out.mono ?_
  rintro e w1 ⟨⟨r, rfl, hr⟩, hb⟩
  have Hr := Lib.hid hr
  clear hr
  go_wp2
  go_ret
  exact ⟨ret_bool Hr.out, hb⟩
def spansE (l : List Sp) : Int := if 60 < l.length then 2 else if l.any (fun s => !spanB s) then 1 else 0
set_option maxHeartbeats 400000 in
theorem spans_any (A : Option Addr) (c : Nat) (l : List Sp) (w : World) (hl : l.length ≤ 1000000) (h : SpsAt w A l) :
    Calls Tryz.prog 39 #[.slice A l.length c] w fun e w' => e = .returned (.int .i64 (spansE l)) ∧ Below w.heap.size w w' := by
  have HC := Lib.hid (fun W (hW : Below w.heap.size w W) => containsSp_any A c l W hl (h.below hW))
  clear h
  by_cases h60 : 60 < l.length
  · have HE := Lib.hid (show spansE l = 2 by unfold spansE; rw [if_pos h60])
    have t : decide ((60 : Int) < (l.length : Int)) = true := decide_eq_true (by omega)
    go_enter Tryz.func39, Tryz.ntmps39
    go_wp2
    go_ret
    exact ⟨by rw [HE.out]; rfl, Below.refl _ _⟩
  · have t : decide ((60 : Int) < (l.length : Int)) = false := decide_eq_false (by omega)
    cases hp : l.any (fun s => !spanB s)
    all_goals
      have HE := Lib.hid (show spansE l = _ by unfold spansE; rw [if_neg h60, hp])
      rw [hp] at HC
      clear hp
      go_enter Tryz.func39, Tryz.ntmps39
      go_wp2_with (go_at_call 51; refine (HC.out _ (Below.refl _ _)).mono ?_; rintro e w1 ⟨rfl, hb⟩)
      go_ret
      exact ⟨by rw [HE.out]; rfl, hb⟩
set_option maxHeartbeats 1000000 in
theorem Union_any (A : Option Addr) (c : Nat) (l : List Sp) (w : World) (hl : l.length ≤ 1000000) (hnil : A = none → l.length = 0 ∧ c = 0) (h : SpsAt w A l) :
    Calls Tryz.prog 17 #[.slice A l.length c] w fun e w' => ∃ l' L v, e = .returned (.tuple #[v, .int .i64 (spansE l)]) ∧ w'.ownsRow w.heap.size 39 2 v L.length (spcs L) ∧ Below w.heap.size w w' ∧ (spansE l ≠ 0 → L = []) ∧ (spansE l = 0 → l'.Perm l ∧ Asc l' ∧ L = uniteL l') := by
  have HS := Lib.hid (fun W (hW : Below w.heap.size w W) => spans_any A c l W hl (h.below hW))
  by_cases he : spansE l = 0
  · have h2 : l.length ≤ 60 ∧ ∀ x ∈ l, spanB x = true := by
      unfold spansE at he
      split at he
      · omega
      · split at he
        · omega
        · rename_i h60 hany
          refine ⟨by omega, fun x hx => ?_⟩
          have h5 := List.any_eq_false.1 (Bool.eq_false_iff.2 hany) x hx
          simpa using h5
    have HU := Lib.hid (fun W (hW : Below w.heap.size w W) => united_any A c l W (by omega) hnil (h.below hW) h2.2)
    have HE := Lib.hid he
    rw [he] at HS
    rw [he]
    clear h hnil he h2
    go_enter Tryz.func17, Tryz.ntmps17
    go_wp2_with (first | (go_at_call 39; refine (HS.out _ (Below.refl _ _)).mono ?_; rintro e w1 ⟨rfl, hb⟩; have HB1 := Lib.hid hb; clear hb) | (go_at_call 40; refine (HU.out _ HB1.out).mono ?_; rintro e w2 ⟨l', v, hp, hs, rfl, ho, hb⟩; have HB2 := Lib.hid (below_trans HB1.out hb); have HO2 := Lib.hid (own_base ho HB1.out.size); have HPS := Lib.hid (And.intro hp hs); clear hb hp hs ho))
    go_ret2
    exact ⟨l', uniteL l', v, rfl, HO2.out, HB2.out, fun hn => absurd rfl hn, fun _ => ⟨HPS.out.1, HPS.out.2, rfl⟩⟩
  · obtain ⟨q, hq⟩ : ∃ q, spansE l = q := ⟨_, rfl⟩
    rw [hq] at HS he ⊢
    have t : (q != 0) = true := by simpa using he
    have HE := Lib.hid he
    clear h hnil hq he
    go_enter Tryz.func17, Tryz.ntmps17
    go_wp2_with (first | (go_at_call 39; refine (HS.out _ (Below.refl _ _)).mono ?_; rintro e w1 ⟨rfl, hb⟩; have HB1 := Lib.hid hb; clear hb))
    go_ret2
    exact ⟨[], [], _, rfl, World.ownsRow_nil _ _ _ _, HB1.out, fun _ => rfl, fun h0 => absurd h0 HE.out⟩
set_option maxRecDepth 100000 in
theorem eq37 (a b c d : Int) (w : World) : (Op.equalIn 10000 39 (.agg #[.int .i64 a, .int .i64 b]) (.agg #[.int .i64 c, .int .i64 d])).run Tryz.prog w = .ok (a == c && b == d) w := by
  have u3 := Tryz.underlying3
  have a3 := Tryz.isAgg3
  have z3 := Tryz.sizeOf3
  have hS : Tryz.prog.underlying 39 = some (.struct (Tryz.prog.fieldsOf 39)) := by kernel_rfl
  have hp : Tryz.prog.stoodInHeld 39 = false := by kernel_rfl
  rw [show (10000 : Nat) = 9999 + 1 from rfl, run_equalIn_agg w 9999 39 _ _ hS hp]
  simp only [Program.fieldsOf, Tryz.underlying39]
  go_simp
  by_cases h1 : a = c <;> by_cases h2 : b = d <;> simp [h1, h2]
set_option maxRecDepth 100000 in
theorem eq23 (a b m c d e : Int) (w : World) : (Op.equalIn 10000 23 (.agg #[.int .i64 a, .int .i64 b, .int .i64 m]) (.agg #[.int .i64 c, .int .i64 d, .int .i64 e])).run Tryz.prog w = .ok (a == c && (b == d && m == e)) w := by
  have u3 := Tryz.underlying3
  have a3 := Tryz.isAgg3
  have z3 := Tryz.sizeOf3
  have hS : Tryz.prog.underlying 23 = some (.struct (Tryz.prog.fieldsOf 23)) := by kernel_rfl
  have hp : Tryz.prog.stoodInHeld 23 = false := by kernel_rfl
  rw [show (10000 : Nat) = 9999 + 1 from rfl, run_equalIn_agg w 9999 23 _ _ hS hp]
  simp only [Program.fieldsOf, Tryz.underlying23]
  go_simp
  by_cases h1 : a = c <;> by_cases h2 : b = d <;> by_cases h3 : m = e <;> simp [h1, h2, h3]
end Go.Proofs.YteoembjghmgbhaaGreatDoor
