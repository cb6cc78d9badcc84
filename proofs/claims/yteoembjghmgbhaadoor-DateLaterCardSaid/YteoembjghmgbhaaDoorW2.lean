/- The law DateLater: the walk. -/
import Derived.Test.YteoembjghmgbhaaDoorR4
import Derived.Test.YteoembjghmgbhaaDoorC9
namespace Go.Proofs.YteoembjghmgbhaaDoor
set_option linter.all false
open Go.RowKit

set_option maxRecDepth 100000 in
set_option maxHeartbeats 1000000 in
theorem later_walk (day months : Int) (w : World) (hT : Tab w) (_ : -9223372036854775808 ≤ day ∧ day ≤ 9223372036854775807) (hm : -9223372036854775808 ≤ months ∧ months ≤ 9223372036854775807) : Calls Tryd.prog 5 #[.int .i64 day, .int .i64 months] w fun e w' => e = .returned (.bool true) ∧ Below w.heap.size w w' := by
  have HT := Lib.hid hT
  have HLA := Lib.hid (fun W => Later_any day months W hm)
  have HD := Lib.hid (fun W => rDay_any day W)
  cases hd : dayB day
  · rw [show LaterR day months = (0, 1) by unfold LaterR; rw [hd]; rfl] at HLA
    rw [hd] at HD
    clear hd hT hm
    go_enter Tryd.func5, Tryd.ntmps5
    go_wp2_with (first | (go_at_call 28; refine (HLA.out _).mono ?_; rintro e w1 ⟨rfl, hb⟩; have HB1 := Lib.hid hb; clear hb) | (go_at_call 21; refine (HD.out _).mono ?_; rintro e w3 ⟨rfl, rfl⟩) | (go_at_call 22; refine (sanity_any _ (HT.out.below HB1.out)).mono ?_; rintro e w4 ⟨rfl, hb⟩; have HB4 := Lib.hid (below_trans HB1.out hb); clear hb))
    go_ret
    exact ⟨rfl, HB4.out⟩
  · have hdd : 0 ≤ day ∧ day ≤ 60000 := by simpa [dayB] using hd
    have HRL := Lib.hid (fun W => rLater_any day months W hm hdd)
    rw [later_same day months hd] at HLA
    rw [hd] at HD
    generalize laterR day months = q at *
    obtain ⟨q1, q2⟩ := q
    simp only at HLA HRL
    clear hd hT hm hdd
    go_enter Tryd.func5, Tryd.ntmps5
    go_wp2_with (first | (go_at_call 28; refine (HLA.out _).mono ?_; rintro e w1 ⟨rfl, hb⟩; have HB1 := Lib.hid hb; clear hb) | (go_at_call 21; refine (HD.out _).mono ?_; rintro e w3 ⟨rfl, rfl⟩) | (go_at_call 29; refine (HRL.out _).mono ?_; rintro e w2 ⟨rfl, hb⟩; have HB2 := Lib.hid (below_trans HB1.out hb); clear hb) | (go_at_call 22; refine (sanity_any _ (HT.out.below HB2.out)).mono ?_; rintro e w4 ⟨rfl, hb⟩; have HB4 := Lib.hid (below_trans HB2.out hb); clear hb))
    go_ret
    exact ⟨by simp, HB4.out⟩
end Go.Proofs.YteoembjghmgbhaaDoor
