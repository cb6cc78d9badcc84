/- The reference's walks: edges. -/
import Derived.Test.YteoembjghmgbhaaDoorF2
import Derived.Test.YteoembjghmgbhaaDoorE0
namespace Go.Proofs.YteoembjghmgbhaaDoor
set_option linter.all false
open Go.RowKit

def nxt1 (last n v : Int) : Int := if last < v then min n v else n
def nxtS (last n : Int) (x : Sp) : Int := nxt1 last (nxt1 last n x.lo) (x.hi + 1)
theorem nxtS_eq (last n a b : Int) : nxtS last n ⟨a, b⟩ = (if last < b + 1 then min (if last < a then min n a else n) (b + 1) else (if last < a then min n a else n)) := rfl
/-- The first edge behind a day. -/
def nextE (l : List Sp) (last : Int) : Int := l.foldl (nxtS last) 60002
theorem nxt1_bd (last n v : Int) (h : last < n) : last < nxt1 last n v ∧ nxt1 last n v ≤ n := by
  unfold nxt1
  split <;> omega
theorem nextF_bd (last : Int) : ∀ (l : List Sp) (n : Int), last < n → last < l.foldl (nxtS last) n ∧ l.foldl (nxtS last) n ≤ n
  | [], n, h => ⟨h, Int.le_refl _⟩
  | x :: l, n, h => by
    obtain ⟨h1, h2⟩ := nxt1_bd last n x.lo h
    obtain ⟨h3, h4⟩ := nxt1_bd last (nxt1 last n x.lo) (x.hi + 1) h1
    obtain ⟨h5, h6⟩ := nextF_bd last l (nxtS last n x) h3
    refine ⟨h5, ?_⟩
    have h7 : nxtS last n x ≤ n := Int.le_trans h4 h2
    exact Int.le_trans h6 h7
theorem nextE_bd (l : List Sp) (last : Int) (h : last < 60002) : last < nextE l last ∧ nextE l last ≤ 60002 := nextF_bd last l 60002 h
def edgesF (l : List Sp) : Nat → Int → List Int
  | 0, _ => []
  | f + 1, last => if nextE l last = 60002 then [] else nextE l last :: edgesF l f (nextE l last)
theorem edgesF_more (l : List Sp) : ∀ (f f' : Nat) (last : Int), last < 60002 → 60002 - last ≤ f → 60002 - last ≤ f' → edgesF l f last = edgesF l f' last
  | 0, _, last, h, h1, _ => by omega
  | f + 1, 0, last, h, _, h2 => by omega
  | f + 1, f' + 1, last, h, h1, h2 => by
    obtain ⟨h3, h4⟩ := nextE_bd l last h
    unfold edgesF
    split
    · rfl
    · rename_i hne
      rw [edgesF_more l f f' (nextE l last) (by omega) (by omega) (by omega)]
/-- The edges behind a day. -/
def edgesE (l : List Sp) (last : Int) : List Int := edgesF l (60002 - last).toNat last
theorem edgesE_step (l : List Sp) (last : Int) (h : last < 60002) : edgesE l last = if nextE l last = 60002 then [] else nextE l last :: edgesE l (nextE l last) := by
  obtain ⟨h3, h4⟩ := nextE_bd l last h
  obtain ⟨f, hf⟩ : ∃ f, (60002 - last).toNat = f + 1 := ⟨(60002 - last).toNat - 1, by omega⟩
  unfold edgesE
  rw [hf]
  show (if nextE l last = 60002 then [] else nextE l last :: edgesF l f (nextE l last)) = _
  split
  · rfl
  · rename_i hne
    rw [edgesF_more l f (60002 - nextE l last).toNat (nextE l last) (by omega) (by omega) (by omega)]
theorem nextF_succ (l : List Sp) (last n : Int) (k : Nat) (h : k < l.length) : (l.take (k + 1)).foldl (nxtS last) n = nxtS last ((l.take k).foldl (nxtS last) n) (gs l k) := by
  rw [take_gs l k h, List.foldl_append]; rfl
set_option maxRecDepth 100000 in
set_option maxHeartbeats 2000000 in
theorem rEdges_any (A : Option Addr) (c : Nat) (l : List Sp) (w : World) (hl : l.length ≤ 1000) (h : SpsAt w A l) (hb : ∀ x ∈ l, (0 ≤ x.lo ∧ x.lo ≤ 60000) ∧ 0 ≤ x.hi ∧ x.hi ≤ 60000) :
    Calls Tryd.prog 77 #[.slice A l.length c] w fun e w' => ∃ v, e = .returned v ∧ w'.ownsRow w.heap.size 3 1 v (edgesE l (-1)).length (ints (edgesE l (-1))) ∧ Below w.heap.size w w' := by
  have HS := Lib.hid h
  have HB := Lib.hid hb
  have HBD := Lib.hid (nextE_bd l)
  have HST := Lib.hid (edgesE_step l)
  have HNS := Lib.hid (nextF_succ l)
  have HFB := Lib.hid (fun last k => nextF_bd last (l.take k) 60002)
  clear h hb
  go_enter Tryd.func77, Tryd.ntmps77
  go_upto_region 3 with fail
  go_loopw [3, 4] (fun o la wr => ∃ (acc : List Int) (last : Int), (-1 ≤ last ∧ last < 60002) ∧ ((acc.length : Nat) : Int) ≤ last + 1 ∧ la = .int .i64 last ∧ Hid (edgesE l (-1) = acc ++ edgesE l last) ∧ Hid (wr.ownsRow w.heap.size 3 1 o acc.length (ints acc)) ∧ Hid (Below w.heap.size w wr)) (fun _ la _ => (60002 - intOf la).toNat)
  case atStart => exact ⟨[], -1, by omega, by simp, rfl, Lib.hid rfl, Lib.hid (World.ownsRow_nil _ _ _ _), Lib.hid (Below.refl _ _)⟩
  case round =>
    obtain ⟨acc, last, ⟨hla1, hla2⟩, hacc, rfl, HE, HO, HBk⟩ := hrel
    go_upto_region 5 with fail
    have HNB := Lib.hid (HBD.out last (by omega))
    have HSTL := Lib.hid (HST.out last (by omega))
    have HFBL := Lib.hid (HFB.out last)
    have HNSL := Lib.hid (HNS.out last 60002)
    have HSR := Lib.hid (HS.out.below HBk.out)
    go_loopw [5, 6] (fun nx i wi => ∃ k : Nat, k ≤ l.length ∧ i = .int .i64 k ∧ nx = .int .i64 ((l.take k).foldl (nxtS last) 60002) ∧ wr = wi) (fun _ i _ => l.length - (intOf i).toNat)
    case atStart => exact ⟨0, by omega, rfl, rfl, rfl⟩
    case round =>
      obtain ⟨k, hk, rfl, rfl, rfl⟩ := hrel
      have hfb := HFBL.out k (by omega)
      by_cases hlt : k < l.length
      · obtain ⟨b, o, rfl, g1, g2⟩ := HSR.out.nat k hlt
        have hns := HNSL.out k hlt
        have hxb := HB.out _ (gs_mem hlt)
        generalize (l.take k).foldl (nxtS last) 60002 = n at *
        generalize gs l (k : Int) = x at *
        obtain ⟨xa, xb⟩ := x
        simp only at *
        have HN1 := Lib.hid (hns.trans (nxtS_eq last n xa xb))
        clear hns
        by_cases c1 : last < xa
        · have t1 : decide (last < xa) = true := decide_eq_true c1
          obtain ⟨m1, hm1⟩ : ∃ m1, min n xa = m1 := ⟨_, rfl⟩
          have hm2 : (if xa < n then xa else n) = m1 := by rw [← hm1]; split <;> omega
          have hmb : -1000000 ≤ m1 ∧ m1 ≤ 1000000 := by rw [← hm1]; omega
          by_cases c2 : last < xb + 1
          · have t2 : decide (last < xb + 1) = true := decide_eq_true c2
            obtain ⟨m3, hm3⟩ : ∃ m3, min m1 (xb + 1) = m3 := ⟨_, rfl⟩
            have hm4 : (if xb + 1 < m1 then xb + 1 else m1) = m3 := by rw [← hm3]; split <;> omega
            have HN2 := Lib.hid (show (l.take (k + 1)).foldl (nxtS last) 60002 = m3 by rw [HN1.out, if_pos c2, if_pos c1, hm1, hm3])
            go_wp2
            go_roundw
            case rel => exact ⟨k + 1, by omega, by go_num, by rw [HN2.out], trivial⟩
            case measure => simp [intOf]; omega
          · have t2 : decide (last < xb + 1) = false := decide_eq_false c2
            have HN2 := Lib.hid (show (l.take (k + 1)).foldl (nxtS last) 60002 = m1 by rw [HN1.out, if_neg c2, if_pos c1, hm1])
            go_wp2
            go_roundw
            case rel => exact ⟨k + 1, by omega, by go_num, by rw [HN2.out], trivial⟩
            case measure => simp [intOf]; omega
        · have t1 : decide (last < xa) = false := decide_eq_false c1
          by_cases c2 : last < xb + 1
          · have t2 : decide (last < xb + 1) = true := decide_eq_true c2
            obtain ⟨m3, hm3⟩ : ∃ m3, min n (xb + 1) = m3 := ⟨_, rfl⟩
            have hm4 : (if xb + 1 < n then xb + 1 else n) = m3 := by rw [← hm3]; split <;> omega
            have HN2 := Lib.hid (show (l.take (k + 1)).foldl (nxtS last) 60002 = m3 by rw [HN1.out, if_pos c2, if_neg c1, hm3])
            go_wp2
            go_roundw
            case rel => exact ⟨k + 1, by omega, by go_num, by rw [HN2.out], trivial⟩
            case measure => simp [intOf]; omega
          · have t2 : decide (last < xb + 1) = false := decide_eq_false c2
            have HN2 := Lib.hid (show (l.take (k + 1)).foldl (nxtS last) 60002 = n by rw [HN1.out, if_neg c2, if_neg c1])
            go_wp2
            go_roundw
            case rel => exact ⟨k + 1, by omega, by go_num, by rw [HN2.out], trivial⟩
            case measure => simp [intOf]; omega
      · obtain rfl : k = l.length := by omega
        have hne := HNB.out
        have hst := HSTL.out
        have e0 : (l.take l.length).foldl (nxtS last) 60002 = nextE l last := by rw [List.take_length]; rfl
        rw [e0] at *
        clear e0 hfb
        generalize nextE l last = nx at *
        by_cases hz : nx = 60002
        · rw [if_pos hz] at hst
          have HEE := Lib.hid (show edgesE l (-1) = acc by rw [HE.out, hst, List.append_nil])
          have tz : (nx == 60002) = true := by simpa using hz
          clear hst hz
          go_wp2
          go_ret
          exact ⟨_, rfl, by rw [HEE.out]; exact HO.out, HBk.out⟩
        · rw [if_neg hz] at hst
          have HEE := Lib.hid (show edgesE l (-1) = (acc ++ [nx]) ++ edgesE l nx by rw [HE.out, hst]; simp)
          have tz : (nx == 60002) = false := by simpa using hz
          clear hst
          obtain ⟨A5, c5, rfl, -⟩ := own_slice HO.out
          have hA := (own_slice HO.out)
          go_wp2_with (first | (at_builtin; refine app_one rfl _ _ 51 3 (.int .i64 0) 1 8 rfl Tryd.underlying51 info3 rfl (by omega) (.slice A5 acc.length c5) acc.length (ints acc) [.int .i64 nx] rfl rfl (by simp) rfl (one1 _ _) w.heap.size HO.out HBk.out.size (by omega) (by unfold maxLen; omega) ?_; intro v1 w1 ho hg _; have HO1 := Lib.hid ho; have HB1 := Lib.hid (below_own HBk.out hg HBk.out.size (fun b hb => by obtain ⟨A6, c6, e6, _, _, h6⟩ := hA; cases A5 with | none => cases hb | some ad => cases e6; have h7 := h6 ad rfl; rw [hb] at h7; have h8 := Option.some.inj h7.1; omega)); clear ho hg))
          go_roundw
          case rel => exact ⟨acc ++ [nx], nx, by omega, by rw [List.length_append]; simp; omega, rfl, HEE, Lib.hid (by rw [ints_app, List.length_append]; exact HO1.out), HB1⟩
          case measure => simp [intOf]; omega
end Go.Proofs.YteoembjghmgbhaaDoor
