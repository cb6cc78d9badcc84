/- The flow walks: Needed. -/
import Derived.Test.YtmhiiomejopaoaaM4
namespace Go.Proofs.Ytmhiiomejopaoaa
set_option linter.all false
open Go.RowKit

def neededN (F : Nat) (n : Nat) (l : List Lk) (x u : List Int) (sum : Int) : Nat → Option (List Int)
  | 0 => some []
  | k + 1 =>
    match neededN F n l x u sum k with
    | none => none
    | some o =>
      if gi u k == 0 then some o
      else match bestP F n (keptL l (notIn [(k : Int)])) x with
        | none => none
        | some r => if (lacksR l sum [(k : Int)] r).2 then some o else some (o ++ [(k : Int)])
theorem neededN_down {F n : Nat} {l : List Lk} {x u : List Int} {sum : Int} : ∀ {m : Nat} {o : List Int}, neededN F n l x u sum m = some o → ∀ k, k ≤ m → ∃ o', neededN F n l x u sum k = some o'
  | 0, o, h, k, hk => ⟨o, by rw [show k = 0 by omega]; exact h⟩
  | m + 1, o, h, k, hk => by
    rcases Nat.lt_or_ge m k with h1 | h1
    · exact ⟨o, by rw [show k = m + 1 by omega]; exact h⟩
    · unfold neededN at h
      cases h2 : neededN F n l x u sum m with
      | none => rw [h2] at h; cases h
      | some o' => exact neededN_down h2 k h1
theorem neededN_len {F n : Nat} {l : List Lk} {x u : List Int} {sum : Int} : ∀ {m : Nat} {o : List Int}, neededN F n l x u sum m = some o → o.length ≤ m
  | 0, o, h => by cases h; exact Nat.le_refl _
  | m + 1, o, h => by
    unfold neededN at h
    cases h2 : neededN F n l x u sum m with
    | none => rw [h2] at h; cases h
    | some o' =>
      rw [h2] at h
      have hl := neededN_len h2
      simp only at h
      split at h
      · cases h; omega
      · split at h
        · cases h
        · split at h
          · cases h; omega
          · cases h; simp; omega
def neededP (F : Nat) (n : Int) (l : List Lk) (x : List Int) : Option (List Int × Int) :=
  match proveP F n l x with
  | none => none
  | some r => if r.2 = 0 then (neededN F n.toNat l x r.1 (costI l r.1) l.length).map (fun o => (o, 0)) else some ([], r.2)
set_option maxRecDepth 100000 in
set_option maxHeartbeats 4000000 in
theorem needed_no (r : List Int × Int) (n : Int) (A : Option Addr) (c m : Nat) (b : Value) (w : World) (h0 : ¬ r.2 = 0) (HP : Calls Try.prog 45 #[.agg #[.int .i64 n, .slice A m c], b] (w.alloc (.cells #[.int .i64 n, .slice A m c] 24)) fun e w' => ∃ v, e = .returned (.tuple #[v, .int .i64 r.2]) ∧ IntsV w' v r.1 ∧ Below (w.alloc (.cells #[.int .i64 n, .slice A m c] 24)).heap.size (w.alloc (.cells #[.int .i64 n, .slice A m c] 24)) w') :
    Calls Try.prog 19 #[.agg #[.int .i64 n, .slice A m c], b] w fun e w' => e = .returned (.tuple #[.slice none 0 0, .int .i64 r.2]) ∧ Below w.heap.size w w' := by
  have HPP := Lib.hid HP
  have hc' : (r.2 != 0) = true := by simpa using h0
  clear HP h0
  go_enter Try.func19, Try.ntmps19
  go_wp2_with (go_at_call 45; refine HPP.out.mono ?_; rintro e w1 ⟨v, rfl, hv, hb⟩; have HB := Lib.hid (boxed hb).1; clear hb hv)
  go_ret2
  exact ⟨rfl, HB.out⟩
theorem MapI.put1 {w : World} (k : Int) {w' : World} (h : MapI w' w.heap.size (putI [] k (.bool true))) : MapI w' w.heap.size (setI [k]) := h
set_option maxRecDepth 100000 in
set_option maxHeartbeats 4000000 in
theorem needed_yes (F : Nat) (u : List Int) (o : List Int) (n : Nat) (A : Option Addr) (c : Nat) (l : List Lk) (B : Option Addr) (d : Nat) (x : List Int) (w : World) (hn0 : 0 < n) (hn : n ≤ 1000) (hl : l.length ≤ 1000) (hu : u.length = l.length) (hx : x.length = n) (h : LksAt w A l) (h' : IntsAt w B x) (hr : ∀ k ∈ l, InR n k)
    (HP : Calls Try.prog 45 #[.agg #[.int .i64 n, .slice A l.length c], .slice B x.length d] (w.alloc (.cells #[.int .i64 n, .slice A l.length c] 24)) fun e w' => ∃ v, e = .returned (.tuple #[v, .int .i64 0]) ∧ IntsV w' v u ∧ Below (w.alloc (.cells #[.int .i64 n, .slice A l.length c] 24)).heap.size (w.alloc (.cells #[.int .i64 n, .slice A l.length c] 24)) w')
    (ho : neededN F n l x u (costI l u) l.length = some o) :
    Calls Try.prog 19 #[.agg #[.int .i64 n, .slice A l.length c], .slice B x.length d] w fun e w' => ∃ v, e = .returned (.tuple #[v, .int .i64 0]) ∧ IntsV w' v o ∧ Below w.heap.size w w' := by
  have HA := Lib.hid h
  have HX := Lib.hid h'
  have HU := Lib.hid hu
  have HR := Lib.hid hr
  have HPP := Lib.hid HP
  have HO := Lib.hid ho
  have HXN := Lib.hid hx
  have hmm := @run_makeMap Try.prog
  clear h h' hr HP hu ho hx
  go_enter Try.func19, Try.ntmps19
  go_wp2_with (first | (go_at_call 45; refine HPP.out.mono ?_; rintro e w1 ⟨v, rfl, ⟨A3, c3, rfl, hv, _⟩, hb⟩; have HB := Lib.hid (boxed hb).1; obtain ⟨q0, q1, lw⟩ := (boxed hb).2; have HV := Lib.hid hv; clear hb hv) | (go_at_call 70; refine (cost_any n A c l A3 c3 u _ (by omega) HU.out (HA.out.below HB.out) HV.out).mono ?_; rintro e w2 ⟨rfl, hb2⟩; have HB2 := Lib.hid (below_trans HB.out hb2); have HV2 := Lib.hid (HV.out.below hb2); have q0 := cell_below hb2 q0; have q1 := cell_below hb2 q1; have lw := World.block_lt_of_cell? _ _ q1; clear hb2))
  have HW2 := Lib.hid (And.intro q0 q1)
  have HA2 := Lib.hid (HA.out.below HB2.out)
  have HX2 := Lib.hid (HX.out.below HB2.out)
  have HUL := Lib.hid (show (u.length : Int) = l.length by rw [HU.out])
  clear q0 q1
  go_loopw [9, 10, 11, 12, 28] (fun v _ _ _ i wr => ∃ (k : Nat) (o : List Int), k ≤ l.length ∧ i = .int .i64 k ∧ Hid (neededN F n l x u (costI l u) k = some o) ∧ Hid (OwnN w2.heap.size w2 wr v o)) (fun _ _ _ _ i _ => l.length - (intOf i).toNat)
  case atStart => exact ⟨0, [], by omega, rfl, Lib.hid rfl, Lib.hid ⟨World.ownsRow_nil _ _ _ _, Below.refl _ _, Nat.le_refl _⟩⟩
  case round =>
    obtain ⟨k, o', hk, rfl, HK, HZ⟩ := hrel
    by_cases hlt : k < l.length
    · have hlu : k < u.length := by rw [HU.out]; exact hlt
      obtain ⟨b5, o5, rfl, g1⟩ := (HV2.out.below HZ.out.below).nat k hlu
      have hUi := HUL.out
      have q0 := cell_below HZ.out.below HW2.out.1
      have q1 := cell_below HZ.out.below HW2.out.2
      have lq := World.block_lt_of_cell? _ _ q0
      obtain ⟨o2, ho2⟩ := neededN_down HO.out (k + 1) (by omega)
      have hs := ho2
      unfold neededN at hs
      rw [HK.out] at hs
      simp only at hs
      have HK2 := Lib.hid ho2
      have Hlen := Lib.hid (neededN_len HK.out)
      clear ho2
      generalize hy : gi u k = y at *
      clear hy
      cases hy0 : (y == 0)
      · rw [hy0] at hs
        simp only [Bool.false_eq_true, if_false] at hs
        cases hbp : bestP F n (keptL l (notIn [(k : Int)])) x with
        | none => rw [hbp] at hs; cases hs
        | some r =>
          rw [hbp] at hs
          simp only at hs
          have HBP := Lib.hid hbp
          clear hbp
          have HLK := Lib.hid (fun mb W h1 h2 h3 => lacks_any F r n A c l B d x (costI l u) mb [(k : Int)] W hn0 (by omega) hl HXN.out h1 h2 h3 HR.out HBP.out)
          have HHS := Lib.hid hs
          clear hs
          cases hsame : (lacksR l (costI l u) [(k : Int)] r).2
          · have HSM := Lib.hid hsame
            rw [hsame] at HLK
            have Hs := Lib.hid (show o2 = o' ++ [(k : Int)] by have := HHS.out; rw [hsame] at this; simpa using this.symm)
            clear hsame
            go_wp2_with (first | (go_at_call 71; refine (HLK.out wr.heap.size w5 (HA2.out.below (below_trans HZ.out.below HB5.out)) (HX2.out.below (below_trans HZ.out.below HB5.out)) HM5.out).mono ?_; rintro e w6 ⟨v, rfl, hv, hb6⟩; have HB6 := Lib.hid (below_trans HB5.out hb6); have HZ6 := Lib.hid (HZ.out.calls HB6.out); clear hv hb6) | (refine map_store (b := wr.heap.size) (m := []) rfl _ _ _ 80 4 (.inr rfl) Try.underlying80 (k : Int) (.bool true) rfl rfl rfl (MapI.made _) ?_; intro w5 hm5 hg5; dsimp only [Act.put]; have HM5 := Lib.hid (MapI.put1 _ hm5); have hb5 := below_of_grown (Below.alloc (Below.refl wr.heap.size wr) (Nat.le_refl _) (.map #[] 0)) hg5 (by simp) (Nat.le_refl _); have q0 := cell_below hb5 q0; have q1 := cell_below hb5 q1; have HB5 := Lib.hid hb5; clear hm5 hg5 hb5) | (at_builtin; refine app_one rfl _ _ 25 3 (.int .i64 0) 1 8 rfl Try.underlying25 info3 rfl (by omega) u9 _ _ [.int .i64 k] rfl rfl rfl rfl (one1 _ _) w2.heap.size HZ6.out.row HZ6.out.hB (by have := Hlen.out; omega) (by have := Hlen.out; unfold maxLen; omega) ?_; intro v1 w7 ho hg _; have HG := Lib.hid hg; have HO3 := Lib.hid ho; clear ho hg))
            go_roundw
            case rel => exact ⟨k + 1, o2, by omega, by go_num, HK2, Lib.hid (by rw [Hs.out]; exact HZ6.out.appended HO3.out HG.out)⟩
            case measure => simp [intOf]; omega
          · have HSM := Lib.hid hsame
            rw [hsame] at HLK
            have Hs := Lib.hid (show o2 = o' by have := HHS.out; rw [hsame] at this; simpa using this.symm)
            clear hsame
            go_wp2_with (first | (go_at_call 71; refine (HLK.out wr.heap.size w5 (HA2.out.below (below_trans HZ.out.below HB5.out)) (HX2.out.below (below_trans HZ.out.below HB5.out)) HM5.out).mono ?_; rintro e w6 ⟨v, rfl, hv, hb6⟩; have HB6 := Lib.hid (below_trans HB5.out hb6); clear hv hb6) | (refine map_store (b := wr.heap.size) (m := []) rfl _ _ _ 80 4 (.inr rfl) Try.underlying80 (k : Int) (.bool true) rfl rfl rfl (MapI.made _) ?_; intro w5 hm5 hg5; dsimp only [Act.put]; have HM5 := Lib.hid (MapI.put1 _ hm5); have hb5 := below_of_grown (Below.alloc (Below.refl wr.heap.size wr) (Nat.le_refl _) (.map #[] 0)) hg5 (by simp) (Nat.le_refl _); have q0 := cell_below hb5 q0; have q1 := cell_below hb5 q1; have HB5 := Lib.hid hb5; clear hm5 hg5 hb5))
            have HZ6 := Lib.hid (HZ.out.calls HB6.out)
            go_wp2
            go_roundw
            case rel => exact ⟨k + 1, o2, by omega, by go_num, HK2, Lib.hid (by rw [Hs.out]; exact HZ6.out)⟩
            case measure => simp [intOf]; omega
      · rw [hy0] at hs
        simp only [if_true, Option.some.injEq] at hs
        subst hs
        go_wp2
        go_roundw
        case rel => exact ⟨k + 1, _, by omega, by go_num, HK2, HZ⟩
        case measure => simp [intOf]; omega
    · obtain rfl : k = l.length := by omega
      have e : o' = o := Option.some.inj (HK.out.symm.trans HO.out)
      subst e
      go_wp2
      go_ret2
      exact ⟨_, rfl, own_intsV HZ.out.row, below_trans HB2.out HZ.out.below⟩
end Go.Proofs.Ytmhiiomejopaoaa
