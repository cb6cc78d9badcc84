/- The law DateMonths: the walk. -/
import Derived.Test.YteoembjghmgbhaaDoorE2
import Derived.Test.YteoembjghmgbhaaDoorC9
import Derived.Test.YteoembjghmgbhaaDoorW4
namespace Go.Proofs.YteoembjghmgbhaaDoor
set_option linter.all false
open Go.RowKit

/-- A contract that leaves the world as it was. -/
def RetQ (f : FuncId) (args : Array Value) (v : Value) : Prop := ∀ W, Calls Tryd.prog f args W fun e w' => e = .returned v ∧ W = w'
set_option maxRecDepth 100000 in
set_option maxHeartbeats 600000 in
theorem months_core (day month year : Int) (y : Sp) (w : World) (hT : Tab w) (mv me s0 s1 se z0 z1 ze ae : Int) (b by' bm : Bool) (l : List Int)
    (hM : Ret 30 #[.int .i64 day] (.tuple #[.int .i64 mv, .int .i64 me])) (hS : Ret 31 #[.int .i64 month] (.tuple #[.agg #[.int .i64 s0, .int .i64 s1], .int .i64 se]))
    (hY : Ret 42 #[.int .i64 year] (.tuple #[.agg #[.int .i64 z0, .int .i64 z1], .int .i64 ze])) (hA : AlikeRet month y l ae)
    (hD : RetQ 21 #[.int .i64 day] (.bool b)) (hI : RetQ 43 #[.int .i64 year, .int .i64 1850, .int .i64 2014] (.bool by')) (hJ : RetQ 43 #[.int .i64 month, .int .i64 0, .int .i64 1971] (.bool bm))
    (h1 : (b = true ∧ me = 0 ∧ RetQ 39 #[.int .i64 day] (.int .i64 mv)) ∨ (b = false ∧ me = 1 ∧ mv = 0))
    (h2 : (by' = true ∧ ze = 0 ∧ Ret 44 #[.int .i64 year] (.agg #[.int .i64 z0, .int .i64 z1])) ∨ (by' = false ∧ ze = 1 ∧ z0 = 0 ∧ z1 = 0))
    (h3 : (bm = false ∧ se = 1 ∧ s0 = 0 ∧ s1 = 0 ∧ ae = 1 ∧ l = []) ∨ (bm = true ∧ se = 0 ∧ Ret 45 #[.int .i64 month] (.agg #[.int .i64 s0, .int .i64 s1]) ∧ ((ae = 1 ∧ l = [] ∧ (y.lo < 1850 ∨ y.hi < y.lo ∨ 2014 < y.hi)) ∨ (ae = 0 ∧ 1850 ≤ y.lo ∧ y.lo ≤ y.hi ∧ y.hi ≤ 2014 ∧ ∀ W, Calls Tryd.prog 47 #[.int .i64 month, spv y] W fun e w' => ∃ A c, e = .returned (.slice A l.length c) ∧ IntsAt w' A l ∧ Below W.heap.size W w'))))
    (hl : l.length ≤ 1000) :
    Calls Tryd.prog 11 #[.int .i64 day, .int .i64 month, .int .i64 year, spv y] w fun e w' => e = .returned (.bool true) ∧ Below w.heap.size w w' := by
  have HT := Lib.hid hT
  have M1 := Lib.hid hM
  have S1 := Lib.hid hS
  have Y1 := Lib.hid hY
  have A1 := Lib.hid hA
  have D1 := Lib.hid hD
  have I1 := Lib.hid hI
  have J1 := Lib.hid hJ
  have C1 := Lib.hid h1
  have C2 := Lib.hid h2
  have C3 := Lib.hid h3
  have HLL := Lib.hid hl
  unfold Ret RetQ AlikeRet at *
  obtain ⟨lo, hi⟩ := y
  unfold spv at *
  simp only at *
  clear hT hM hS hY hA hD hI hJ h1 h2 h3 hl
  have z37 := sneq37 z0 z1
  have e37 := sneq37 s0 s1
  have z00 := sneq37 0 0
  go_enter Tryd.func11, Tryd.ntmps11
  go_upto_region 6 with (first | (go_at_call 30; refine (M1.out _).mono ?_; rintro e w1 ⟨rfl, hb⟩; have HB1 := Lib.hid (below_trans (bel : Below w.heap.size w (w.alloc _)) hb); have Q1 := Lib.hid (lnew hb); clear hb) | (go_at_call 31; refine (S1.out _).mono ?_; rintro e w2 ⟨rfl, hb⟩; have HB2 := Lib.hid (below_trans HB1.out hb); have Q2 := Lib.hid (lift0 hb Q1.out); clear hb) | (go_at_call 42; refine (Y1.out _).mono ?_; rintro e w3 ⟨rfl, hb⟩; have HB3 := Lib.hid (below_trans (HB2.out.alloc HB2.out.size _) hb); have Q3 := Lib.hid (lift1 hb Q2.out); have S3 := Lib.hid (lnew hb); obtain ⟨p0, p1, _, _, lp⟩ := cells2 Q3.out; clear hb) | (go_at_call 37; refine (A1.out _).mono ?_; rintro e w4 ⟨A, c, rfl, hia, _, hb⟩; have HB4 := Lib.hid (below_trans (HB3.out.alloc HB3.out.size _) hb); have Q4 := Lib.hid (lift1 hb Q3.out); have S4 := Lib.hid (lift1 hb S3.out); have Z4 := Lib.hid (lnew hb); have IA4 := Lib.hid hia; clear hb hia) | (go_at_call 21; refine (D1.out _).mono ?_; rintro e w9 ⟨rfl, rfl⟩))
  clear p0 p1 lp
  go_cut [64] from 42 to 64 (fun s wx => s = .bool false ∧ w4 = wx)
  case first =>
    rcases C1.out with ⟨rfl, rfl, hr⟩ | ⟨rfl, rfl, rfl⟩
    · have HR := Lib.hid hr
      clear hr
      go_wp2_with (first | (go_at_call 39; refine (HR.out _).mono ?_; rintro e w9 ⟨rfl, rfl⟩))
      go_meet
      exact ⟨rfl, rfl⟩
    · go_wp2_with fail
      go_meet
      exact ⟨rfl, rfl⟩
  case rest =>
    obtain ⟨rfl, rfl⟩ := hcut
    go_upto_region 9 with (first | (go_at_call 43; refine (I1.out _).mono ?_; rintro e w9 ⟨rfl, rfl⟩))
    go_cut [90] from 67 to 90 (fun s wx => s = .bool false ∧ Hid (Below w4.heap.size w4 wx))
    case first =>
      obtain ⟨c0, c1, _, _, lc⟩ := cells2 Z4.out
      rcases C2.out with ⟨rfl, rfl, hr⟩ | ⟨rfl, rfl, rfl, rfl⟩
      · have HR := Lib.hid hr
        clear hr
        have HBD := Lib.hid (bel : Below w4.heap.size w4 w4.drew)
        refine wp_region_held_drew (S := fun w' => w'.cell? ⟨w3.heap.size, 0, none⟩ = some (.int .i64 z0) ∧ w'.cell? ⟨w3.heap.size, 1, none⟩ = some (.int .i64 z1)) (by kernel_rfl) ⟨c0, c1⟩ (fun hHeld => ?_)
        refine wpAnyH_take (i := 0) (v := ?_) rfl (by kernel_rfl) (by kernel_rfl) (by kernel_rfl) (fun _ _ _ h => h) (Or.inl ⟨by rfl, ?hyy⟩) (by assumption) ?_
        case hyy => (intro w hSw; (try dsimp only at hSw); go_simp; all_goals (with_reducible rfl))
        try simp only [List.getElem_toArray, List.getElem_cons_zero, List.getElem_cons_succ, Act.put, List.setIfInBounds_toArray, List.set_cons_zero, List.set_cons_succ]
        refine wpAnyH_take (i := 1) (v := ?_) rfl (by kernel_rfl) (by kernel_rfl) (by kernel_rfl) (fun _ _ _ h => h) (Or.inl ⟨by rfl, ?hyy⟩) (by assumption) ?_
        case hyy => (intro w hSw; (try dsimp only at hSw); go_simp; all_goals (with_reducible rfl))
        try simp only [List.getElem_toArray, List.getElem_cons_zero, List.getElem_cons_succ, Act.put, List.setIfInBounds_toArray, List.set_cons_zero, List.set_cons_succ]
        refine wpAnyH_take (i := 2) (v := ?_) rfl (by kernel_rfl) (by kernel_rfl) (by kernel_rfl) (fun _ _ _ h => h) (Or.inl ⟨by rfl, ?hyy⟩) (by assumption) ?_
        case hyy => (intro w hSw; (try dsimp only at hSw); go_simp; all_goals (with_reducible rfl))
        try simp only [List.getElem_toArray, List.getElem_cons_zero, List.getElem_cons_succ, Act.put, List.setIfInBounds_toArray, List.set_cons_zero, List.set_cons_succ]
        refine wpAnyH_take (i := 3) (v := ?_) rfl (by kernel_rfl) (by kernel_rfl) (by kernel_rfl) (fun _ _ _ h => h) (Or.inl ⟨by rfl, ?hyy⟩) (by assumption) ?_
        case hyy => (intro w hSw; (try dsimp only at hSw); go_simp; all_goals (with_reducible rfl))
        try simp only [List.getElem_toArray, List.getElem_cons_zero, List.getElem_cons_succ, Act.put, List.setIfInBounds_toArray, List.set_cons_zero, List.set_cons_succ]
        refine wpAnyH_take (i := 4) (v := ?_) rfl (by kernel_rfl) (by kernel_rfl) (by kernel_rfl) (fun _ _ _ h => h) (Or.inl ⟨by rfl, ?hyy⟩) (by assumption) ?_
        case hyy => (intro w hSw; (try dsimp only at hSw); go_simp; all_goals (with_reducible rfl))
        try simp only [List.getElem_toArray, List.getElem_cons_zero, List.getElem_cons_succ, Act.put, List.setIfInBounds_toArray, List.set_cons_zero, List.set_cons_succ]
        refine wpAnyH_take (i := 5) (v := ?_) rfl (by kernel_rfl) (by kernel_rfl) (by kernel_rfl) (fun _ _ _ h => h) (Or.inl ⟨by rfl, ?hyy⟩) (by assumption) ?_
        case hyy => (intro w hSw; (try dsimp only at hSw); go_simp; all_goals (with_reducible rfl))
        try simp only [List.getElem_toArray, List.getElem_cons_zero, List.getElem_cons_succ, Act.put, List.setIfInBounds_toArray, List.set_cons_zero, List.set_cons_succ]
        refine wpAnyH_take (i := 6) (v := ?_) rfl (by kernel_rfl) (by kernel_rfl) (by kernel_rfl) (fun _ _ _ h => h) (Or.inl ⟨by rfl, ?hyy⟩) (by assumption) ?_
        case hyy => (intro w hSw; (try dsimp only at hSw); go_simp; all_goals (with_reducible rfl))
        try simp only [List.getElem_toArray, List.getElem_cons_zero, List.getElem_cons_succ, Act.put, List.setIfInBounds_toArray, List.set_cons_zero, List.set_cons_succ]
        refine wpAnyH_ready (rs := [7]) (by kernel_rfl) (by simp) ?_
        refine AllReadyH.cons rfl (fun K hK => ?_) AllReadyH.nil
        go_simp
        go_at_call 44
        refine (HR.out _).mono ?_
        rintro e w5 ⟨rfl, hb⟩
        have d0 := (hb.cell lc).trans c0
        have d1 := (hb.cell lc).trans c1
        have HB5 := Lib.hid (below_trans HBD.out hb)
        clear hb
        refine hK.out _ _ ⟨d0, d1⟩ (fun hHeld2 => ?_)
        clear hK K hHeld
        try simp only [List.getElem_toArray, List.getElem_cons_zero, List.getElem_cons_succ, Act.put, List.setIfInBounds_toArray, List.set_cons_zero, List.set_cons_succ]
        refine wpAnyH_take (i := 8) (v := ?_) rfl (by kernel_rfl) (by kernel_rfl) (by kernel_rfl) (fun _ _ _ h => h) (Or.inl ⟨by rfl, ?hyy⟩) (by assumption) ?_
        case hyy => (intro w hSw; (try dsimp only at hSw); go_simp; all_goals (with_reducible rfl))
        try simp only [List.getElem_toArray, List.getElem_cons_zero, List.getElem_cons_succ, Act.put, List.setIfInBounds_toArray, List.set_cons_zero, List.set_cons_succ]
        refine wpAnyH_take (i := 9) (v := ?_) rfl (by kernel_rfl) (by kernel_rfl) (by kernel_rfl) (fun _ _ _ h => h) (Or.inl ⟨by rfl, ?hyy⟩) (by assumption) ?_
        case hyy => (intro w hSw; (try dsimp only at hSw); go_simp; all_goals (with_reducible rfl))
        try simp only [List.getElem_toArray, List.getElem_cons_zero, List.getElem_cons_succ, Act.put, List.setIfInBounds_toArray, List.set_cons_zero, List.set_cons_succ]
        refine wpAnyH_take (i := 10) (v := ?_) rfl (by kernel_rfl) (by kernel_rfl) (by kernel_rfl) (fun _ _ _ h => h) (Or.inl ⟨by rfl, ?hyy⟩) (by assumption) ?_
        case hyy => (intro w hSw; (try dsimp only at hSw); go_simp; all_goals (with_reducible rfl))
        try simp only [List.getElem_toArray, List.getElem_cons_zero, List.getElem_cons_succ, Act.put, List.setIfInBounds_toArray, List.set_cons_zero, List.set_cons_succ]
        refine wpAnyH_take (i := 11) (v := ?_) rfl (by kernel_rfl) (by kernel_rfl) (by kernel_rfl) (fun _ _ _ h => h) (Or.inl ⟨by rfl, ?hyy⟩) (by assumption) ?_
        case hyy => (intro w hSw; (try dsimp only at hSw); go_simp; all_goals (with_reducible rfl))
        try simp only [List.getElem_toArray, List.getElem_cons_zero, List.getElem_cons_succ, Act.put, List.setIfInBounds_toArray, List.set_cons_zero, List.set_cons_succ]
        refine wpAnyH_take (i := 12) (v := ?_) rfl (by kernel_rfl) (by kernel_rfl) (by kernel_rfl) (fun _ _ _ h => h) (Or.inl ⟨by rfl, ?hyy⟩) (by assumption) ?_
        case hyy => (intro w hSw; (try dsimp only at hSw); go_simp; all_goals (with_reducible rfl))
        try simp only [List.getElem_toArray, List.getElem_cons_zero, List.getElem_cons_succ, Act.put, List.setIfInBounds_toArray, List.set_cons_zero, List.set_cons_succ]
        refine wpAnyH_take (i := 13) (v := ?_) rfl (by kernel_rfl) (by kernel_rfl) (by kernel_rfl) (fun _ _ _ h => h) (Or.inl ⟨by rfl, ?hyy⟩) (by assumption) ?_
        case hyy => (intro w hSw; (try dsimp only at hSw); go_simp; all_goals (with_reducible rfl))
        try simp only [List.getElem_toArray, List.getElem_cons_zero, List.getElem_cons_succ, Act.put, List.setIfInBounds_toArray, List.set_cons_zero, List.set_cons_succ]
        refine wpAnyH_take (i := 14) (v := ?_) rfl (by kernel_rfl) (by kernel_rfl) (by kernel_rfl) (fun _ _ _ h => h) (Or.inl ⟨by rfl, ?hyy⟩) (by assumption) ?_
        case hyy => (intro w hSw; (try dsimp only at hSw); go_simp; all_goals (with_reducible rfl))
        try simp only [List.getElem_toArray, List.getElem_cons_zero, List.getElem_cons_succ, Act.put, List.setIfInBounds_toArray, List.set_cons_zero, List.set_cons_succ]
        refine wpAnyH_ready (rs := [15]) (by kernel_rfl) (by simp) ?_
        refine AllReadyH.cons rfl (fun K hK => ?_) AllReadyH.nil
        go_simp
        refine hK.out _ _ ⟨d0, d1⟩ (fun hHeld3 => ?_)
        clear hK K
        try simp only [List.getElem_toArray, List.getElem_cons_zero, List.getElem_cons_succ, Act.put, List.setIfInBounds_toArray, List.set_cons_zero, List.set_cons_succ]
        refine wpAnyH_ready (rs := [16]) (by kernel_rfl) (by simp) ?_
        refine AllReadyH.cons rfl (fun K hK => ?_) AllReadyH.nil
        go_simp
        refine hK.out _ _ ⟨d0, d1⟩ (fun hHeld3 => ?_)
        clear hK K
        try simp only [List.getElem_toArray, List.getElem_cons_zero, List.getElem_cons_succ, Act.put, List.setIfInBounds_toArray, List.set_cons_zero, List.set_cons_succ]
        refine wpAnyH_ready (rs := [17]) (by kernel_rfl) (by simp) ?_
        refine AllReadyH.cons rfl (fun K hK => ?_) AllReadyH.nil
        go_simp
        refine hK.out _ _ ⟨d0, d1⟩ (fun hHeld3 => ?_)
        clear hK K
        try simp only [List.getElem_toArray, List.getElem_cons_zero, List.getElem_cons_succ, Act.put, List.setIfInBounds_toArray, List.set_cons_zero, List.set_cons_succ]
        refine wpAnyH_ready (rs := [18, 19]) (by kernel_rfl) (by simp) ?_
        refine AllReadyH.cons rfl (fun K hK => ?_) (AllReadyH.cons rfl (fun K hK => ?_) AllReadyH.nil)
        · go_simp
          refine hK.out _ _ ⟨d0, d1⟩ (fun hHeld4 => ?_)
          clear hK K
          try simp only [List.getElem_toArray, List.getElem_cons_zero, List.getElem_cons_succ, Act.put, List.setIfInBounds_toArray, List.set_cons_zero, List.set_cons_succ]
          refine wpAnyH_ready (rs := [19]) (by kernel_rfl) (by simp) ?_
          refine AllReadyH.cons rfl (fun K hK => ?_) AllReadyH.nil
          go_simp
          refine hK.out _ _ ⟨d0, d1⟩ (fun hHeld5 => ?_)
          clear hK K
          try simp only [List.getElem_toArray, List.getElem_cons_zero, List.getElem_cons_succ, Act.put, List.setIfInBounds_toArray, List.set_cons_zero, List.set_cons_succ]
          refine wpAnyH_ready (rs := [20]) (by kernel_rfl) (by simp) ?_
          refine AllReadyH.cons rfl (fun K hK => ?_) AllReadyH.nil
          go_simp
          refine hK.out _ _ ⟨d0, d1⟩ (fun hHeld6 => ?_)
          clear hK K
          try simp only [List.getElem_toArray, List.getElem_cons_zero, List.getElem_cons_succ, Act.put, List.setIfInBounds_toArray, List.set_cons_zero, List.set_cons_succ]
          refine wpAnyH_ready (rs := [21]) (by kernel_rfl) (by simp) ?_
          refine AllReadyH.cons rfl (fun K hK => ?_) AllReadyH.nil
          go_simp
          refine hK.out _ _ ⟨d0, d1⟩ (fun hHeld6 => ?_)
          clear hK K
          try simp only [List.getElem_toArray, List.getElem_cons_zero, List.getElem_cons_succ, Act.put, List.setIfInBounds_toArray, List.set_cons_zero, List.set_cons_succ]
          refine wpAnyH_take (i := 22) (v := ?_) rfl (by kernel_rfl) (by kernel_rfl) (by kernel_rfl) (fun _ _ _ h => h) (Or.inl ⟨by rfl, ?hyy⟩) (by assumption) ?_
          case hyy => (intro w hSw; (try dsimp only at hSw); go_simp; all_goals (with_reducible rfl))
          try simp only [List.getElem_toArray, List.getElem_cons_zero, List.getElem_cons_succ, Act.put, List.setIfInBounds_toArray, List.set_cons_zero, List.set_cons_succ]
          refine wpAnyH_take (i := 23) (v := ?_) rfl (by kernel_rfl) (by kernel_rfl) (by kernel_rfl) (fun _ _ _ h => h) (Or.inl ⟨by rfl, ?hyy⟩) (by assumption) ?_
          case hyy => (intro w hSw; (try dsimp only at hSw); go_simp; all_goals (with_reducible rfl))
          try simp only [List.getElem_toArray, List.getElem_cons_zero, List.getElem_cons_succ, Act.put, List.setIfInBounds_toArray, List.set_cons_zero, List.set_cons_succ]
          refine wpAnyH_done (by kernel_rfl) ?_ _
          go_wp2_with fail
          go_meet
          exact ⟨rfl, HB5⟩
        · go_simp
          refine hK.out _ _ ⟨d0, d1⟩ (fun hHeld4 => ?_)
          clear hK K
          try simp only [List.getElem_toArray, List.getElem_cons_zero, List.getElem_cons_succ, Act.put, List.setIfInBounds_toArray, List.set_cons_zero, List.set_cons_succ]
          refine wpAnyH_ready (rs := [18]) (by kernel_rfl) (by simp) ?_
          refine AllReadyH.cons rfl (fun K hK => ?_) AllReadyH.nil
          go_simp
          refine hK.out _ _ ⟨d0, d1⟩ (fun hHeld5 => ?_)
          clear hK K
          try simp only [List.getElem_toArray, List.getElem_cons_zero, List.getElem_cons_succ, Act.put, List.setIfInBounds_toArray, List.set_cons_zero, List.set_cons_succ]
          refine wpAnyH_ready (rs := [20]) (by kernel_rfl) (by simp) ?_
          refine AllReadyH.cons rfl (fun K hK => ?_) AllReadyH.nil
          go_simp
          refine hK.out _ _ ⟨d0, d1⟩ (fun hHeld6 => ?_)
          clear hK K
          try simp only [List.getElem_toArray, List.getElem_cons_zero, List.getElem_cons_succ, Act.put, List.setIfInBounds_toArray, List.set_cons_zero, List.set_cons_succ]
          refine wpAnyH_ready (rs := [21]) (by kernel_rfl) (by simp) ?_
          refine AllReadyH.cons rfl (fun K hK => ?_) AllReadyH.nil
          go_simp
          refine hK.out _ _ ⟨d0, d1⟩ (fun hHeld6 => ?_)
          clear hK K
          try simp only [List.getElem_toArray, List.getElem_cons_zero, List.getElem_cons_succ, Act.put, List.setIfInBounds_toArray, List.set_cons_zero, List.set_cons_succ]
          refine wpAnyH_take (i := 22) (v := ?_) rfl (by kernel_rfl) (by kernel_rfl) (by kernel_rfl) (fun _ _ _ h => h) (Or.inl ⟨by rfl, ?hyy⟩) (by assumption) ?_
          case hyy => (intro w hSw; (try dsimp only at hSw); go_simp; all_goals (with_reducible rfl))
          try simp only [List.getElem_toArray, List.getElem_cons_zero, List.getElem_cons_succ, Act.put, List.setIfInBounds_toArray, List.set_cons_zero, List.set_cons_succ]
          refine wpAnyH_take (i := 23) (v := ?_) rfl (by kernel_rfl) (by kernel_rfl) (by kernel_rfl) (fun _ _ _ h => h) (Or.inl ⟨by rfl, ?hyy⟩) (by assumption) ?_
          case hyy => (intro w hSw; (try dsimp only at hSw); go_simp; all_goals (with_reducible rfl))
          try simp only [List.getElem_toArray, List.getElem_cons_zero, List.getElem_cons_succ, Act.put, List.setIfInBounds_toArray, List.set_cons_zero, List.set_cons_succ]
          refine wpAnyH_done (by kernel_rfl) ?_ _
          go_wp2_with fail
          go_meet
          exact ⟨rfl, HB5⟩
      · go_quiet (fail)
        go_wp2_with fail
        go_meet
        exact ⟨rfl, Lib.hid (below_dN (Below.refl _ _) _)⟩
    case rest =>
      obtain ⟨rfl, HBc⟩ := hcut
      have HB5 := Lib.hid (below_trans HB4.out HBc.out)
      have Q5 := Lib.hid (lift0 HBc.out Q4.out)
      have S5 := Lib.hid (lift0 HBc.out S4.out)
      have IA5 := Lib.hid (IA4.out.below HBc.out)
      obtain ⟨w5, hw5⟩ : ∃ w5, w5 = wc := ⟨_, rfl⟩
      rw [← hw5] at HB5 Q5 S5 IA5 ⊢
      clear hw5 HBc
      rcases C3.out with ⟨rfl, rfl, rfl, rfl, rfl, rfl⟩ | ⟨rfl, rfl, hr, hr3⟩
      · have z38 := seq37 0 0
        go_wp2_with (first | (go_at_call 43; refine (J1.out _).mono ?_; rintro e w9 ⟨rfl, rfl⟩) | (go_at_call 22; refine (sanity_any _ (HT.out.below HB5.out)).mono ?_; rintro e w6 ⟨rfl, hb⟩; have HB6 := Lib.hid (below_trans HB5.out hb); have S6 := Lib.hid (lift0 hb S5.out); obtain ⟨d0, d1, _, _, ld⟩ := cells2 S6.out; clear hb))
        go_ret
        exact ⟨by simp, HB6.out⟩
      · have HR := Lib.hid hr
        have HR3 := Lib.hid hr3
        clear hr hr3
        go_upto_region 13 with (first | (go_at_call 43; refine (J1.out _).mono ?_; rintro e w9 ⟨rfl, rfl⟩))
        go_cut [120] from 113 to 120 (fun s wx => s = .bool false ∧ Hid (Below w5.heap.size w5 wx))
        case first =>
          obtain ⟨c0, c1, _, _, lc⟩ := cells2 S5.out
          have HBD := Lib.hid (bel : Below w5.heap.size w5 w5.drew)
          go_region_held3 (fun w' => w'.cell? ⟨w2.heap.size, 0, none⟩ = some (.int .i64 s0) ∧ w'.cell? ⟨w2.heap.size, 1, none⟩ = some (.int .i64 s1)) (first | exact ⟨c0, c1⟩ | exact ⟨d0, d1⟩) (first | (go_at_call 45; refine (HR.out _).mono ?_; rintro e w6 ⟨rfl, hb⟩; have d0 := (hb.cell lc).trans c0; have d1 := (hb.cell lc).trans c1; have HB6 := Lib.hid (below_trans HBD.out hb); clear hb))
          all_goals
            go_wp2_with fail
            go_meet
            exact ⟨rfl, HB6⟩
        case rest =>
          obtain ⟨rfl, HBc⟩ := hcut
          have HB6 := Lib.hid (below_trans HB5.out HBc.out)
          have Q6 := Lib.hid (lift0 HBc.out Q5.out)
          have IA6 := Lib.hid (IA5.out.below HBc.out)
          obtain ⟨w6, hw6⟩ : ∃ w6, w6 = wc := ⟨_, rfl⟩
          rw [← hw6] at HB6 Q6 IA6 ⊢
          clear hw6 HBc
          obtain ⟨q0, q1, _, _, lq⟩ := cells2 Q6.out
          rcases HR3.out with ⟨rfl, rfl, hb3⟩ | ⟨rfl, y1, y2, y3, hr47⟩
          · clear HR3 C3
            by_cases c1 : lo < 1850
            · have t1 : decide (lo < 1850) = true := decide_eq_true c1
              go_wp2_with (first | (go_at_call 22; refine (sanity_any _ (HT.out.below HB6.out)).mono ?_; rintro e w7 ⟨rfl, hb⟩; have HB7 := Lib.hid (below_trans HB6.out hb); clear hb))
              go_ret
              exact ⟨by simp, HB7.out⟩
            · have t1 : decide (lo < 1850) = false := decide_eq_false c1
              by_cases c2 : hi < lo
              · have t2 : decide (hi < lo) = true := decide_eq_true c2
                go_wp2_with (first | (go_at_call 22; refine (sanity_any _ (HT.out.below HB6.out)).mono ?_; rintro e w7 ⟨rfl, hb⟩; have HB7 := Lib.hid (below_trans HB6.out hb); clear hb))
                go_ret
                exact ⟨by simp, HB7.out⟩
              · have t2 : decide (hi < lo) = false := decide_eq_false c2
                have t3 : decide (2014 < hi) = true := decide_eq_true (by omega)
                go_wp2_with (first | (go_at_call 22; refine (sanity_any _ (HT.out.below HB6.out)).mono ?_; rintro e w7 ⟨rfl, hb⟩; have HB7 := Lib.hid (below_trans HB6.out hb); clear hb))
                go_ret
                exact ⟨by simp, HB7.out⟩
          · have t1 : decide (lo < 1850) = false := decide_eq_false (by omega)
            have t2 : decide (hi < lo) = false := decide_eq_false (by omega)
            have t3 : decide (2014 < hi) = false := decide_eq_false (by omega)
            have H47 := Lib.hid hr47
            clear hr47 HR3 C3
            go_wp2_with (first | (go_at_call 22; refine (sanity_any _ (HT.out.below HB6.out)).mono ?_; rintro e w7 ⟨rfl, hb⟩; have HB7 := Lib.hid (below_trans HB6.out hb); have Q7 := Lib.hid (lift0 hb Q6.out); have IA7 := Lib.hid (IA6.out.below hb); obtain ⟨d0, d1, _, _, ld⟩ := cells2 Q7.out; clear hb) | (go_at_call 47; refine (H47.out _).mono ?_; rintro e w8 ⟨A8, c8, rfl, hia, hb⟩; have HB8 := Lib.hid (below_trans HB7.out hb); have IA8 := Lib.hid (IA7.out.below hb); have IB8 := Lib.hid hia; clear hb hia) | (go_at_call 46; refine (rSameInts_self _ _ l _ _ _ (by have := HLL.out; omega) IA8.out IB8.out).mono ?_; rintro e w9 ⟨rfl, hb⟩; have HB9 := Lib.hid (below_trans HB8.out hb); clear hb))
            go_ret
            exact ⟨by simp, HB9.out⟩
theorem months_walk (day month year : Int) (y : Sp) (w : World) (hT : Tab w) (_ : -9223372036854775808 ≤ day ∧ day ≤ 9223372036854775807) (_ : -9223372036854775808 ≤ month ∧ month ≤ 9223372036854775807) (_ : -9223372036854775808 ≤ year ∧ year ≤ 9223372036854775807) (_ : -9223372036854775808 ≤ y.lo ∧ y.lo ≤ 9223372036854775807) (_ : -9223372036854775808 ≤ y.hi ∧ y.hi ≤ 9223372036854775807) :
    Calls Tryd.prog 11 #[.int .i64 day, .int .i64 month, .int .i64 year, spv y] w fun e w' => e = .returned (.bool true) ∧ Below w.heap.size w w' := by
  refine months_core day month year y w hT (MonthR day).1 (MonthR day).2 (DaysR month).1.lo (DaysR month).1.hi (DaysR month).2 (YearR year).1.lo (YearR year).1.hi (YearR year).2 _ (dayB day) (inB year 1850 2014) (inB month 0 1971) (alikeL month y)
    (fun W => Month_any day W) (fun W => Days_any month W) (fun W => Year_any year W) (alike_ret month y) (fun W => rDay_any day W) (fun W => rIn_any _ _ _ W) (fun W => rIn_any _ _ _ W) ?_ ?_ ?_ ?_
  · cases hd : dayB day
    · right
      unfold MonthR
      rw [hd]
      exact ⟨rfl, rfl, rfl⟩
    · left
      have hdd : 0 ≤ day ∧ day ≤ 60000 := by simpa [dayB] using hd
      unfold MonthR
      rw [hd]
      exact ⟨rfl, rfl, fun W => rMonth_any day W hdd.1 hdd.2⟩
  · cases hy : inB year 1850 2014
    · right
      unfold YearR
      rw [hy]
      exact ⟨rfl, rfl, rfl, rfl⟩
    · left
      have hyy : 1850 ≤ year ∧ year ≤ 2014 := by simpa [inB] using hy
      unfold YearR
      rw [hy]
      exact ⟨rfl, rfl, fun W => rYear_any year W hyy.1 hyy.2⟩
  · have hmb : monthB month = inB month 0 1971 := rfl
    cases hm : inB month 0 1971
    · left
      have hg : alikeG month y = false := by unfold alikeG; rw [hmb, hm]; rfl
      unfold DaysR alikeL
      rw [hmb, hm, hg]
      exact ⟨rfl, rfl, rfl, rfl, rfl, rfl⟩
    · right
      have hmm : 0 ≤ month ∧ month ≤ 1971 := by simpa [inB] using hm
      obtain ⟨k, rfl⟩ : ∃ k : Nat, month = k := ⟨month.toNat, by omega⟩
      unfold DaysR
      rw [hmb, hm]
      refine ⟨rfl, rfl, fun W => rDays_any k W (by omega), ?_⟩
      cases hg : alikeG k y
      · left
        refine ⟨rfl, by unfold alikeL; rw [hg]; rfl, ?_⟩
        unfold alikeG at hg
        rw [hmb, hm, Bool.true_and] at hg
        by_cases h1 : 1850 ≤ y.lo
        · by_cases h2 : y.lo ≤ y.hi
          · rw [decide_eq_true h1, decide_eq_true h2] at hg
            have h3 : decide (y.hi ≤ 2014) = false := hg
            have := of_decide_eq_false h3
            omega
          · omega
        · omega
      · right
        have hf : (0 ≤ (k : Int) ∧ (k : Int) ≤ 1971) ∧ 1850 ≤ y.lo ∧ y.lo ≤ y.hi ∧ y.hi ≤ 2014 := by simpa [alikeG, monthB] using hg
        exact ⟨rfl, hf.2.1, hf.2.2.1, hf.2.2.2, fun W => rAlike_any k y W hg⟩
  · unfold alikeL
    split
    · rename_i hg
      have hf : (0 ≤ month ∧ month ≤ 1971) ∧ 1850 ≤ y.lo ∧ y.lo ≤ y.hi ∧ y.hi ≤ 2014 := by simpa [alikeG, monthB] using hg
      have := alikeN_len (month % 12) (y.lo - 1850) (y.hi - y.lo + 1).toNat
      omega
    · simp
end Go.Proofs.YteoembjghmgbhaaDoor
