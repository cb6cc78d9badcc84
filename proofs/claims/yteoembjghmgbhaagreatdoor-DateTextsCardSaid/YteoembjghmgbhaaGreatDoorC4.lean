/- The date walks: united. -/
import Derived.Test.YteoembjghmgbhaaGreatDoorC3
namespace Go.Proofs.YteoembjghmgbhaaGreatDoor
set_option linter.all false
open Go.RowKit

def uniteL (l : List Sp) : List Sp := l.foldl addU []
theorem own_base {w : World} {base base' : Nat} {e : TypeId} {size : Nat} {v : Value} {n : Nat} {xs : List Value} (h : w.ownsRow base e size v n xs) (hb : base' ≤ base) : w.ownsRow base' e size v n xs := by
  refine ⟨h.1, ?_⟩
  rcases h.2 with h2 | ⟨g, cap, cur, e1, h1, h3⟩
  · exact .inl h2
  · exact .inr ⟨g, cap, cur, e1, by omega, h3⟩
theorem addU_len (acc : List Sp) (s : Sp) : (addU acc s).length ≤ acc.length + 1 := by
  unfold addU
  split
  · simp
  · simp
theorem addU_bd (acc : List Sp) (s : Sp) (h : ∀ x ∈ acc, 0 ≤ x.hi ∧ x.hi ≤ 60000) (hs : 0 ≤ s.hi ∧ s.hi ≤ 60000) : ∀ x ∈ addU acc s, 0 ≤ x.hi ∧ x.hi ≤ 60000 := by
  unfold addU
  split
  · rename_i h0
    intro x hx
    rcases List.mem_or_eq_of_mem_set hx with h1 | rfl
    · exact h x h1
    · have := h _ (gs_mem (l := acc) (i := acc.length - 1) (by omega))
      simp only
      unfold mx
      omega
  · intro x hx
    rcases List.mem_append.1 hx with h1 | h1
    · exact h x h1
    · simp at h1; subst h1; exact hs
theorem fold_len (l : List Sp) : ∀ k, k ≤ l.length → ((l.take k).foldl addU []).length ≤ k
  | 0, _ => by simp
  | k + 1, h => by
    rw [take_gs l k (by omega), List.foldl_append]
    have := fold_len l k (by omega)
    have h2 := addU_len ((l.take k).foldl addU []) (gs l k)
    simp only [List.foldl_cons, List.foldl_nil]
    omega
theorem fold_bd (l : List Sp) (hv : ∀ x ∈ l, spanB x = true) : ∀ k, k ≤ l.length → ∀ x ∈ (l.take k).foldl addU [], 0 ≤ x.hi ∧ x.hi ≤ 60000
  | 0, _ => by simp
  | k + 1, h => by
    rw [take_gs l k (by omega), List.foldl_append]
    simp only [List.foldl_cons, List.foldl_nil]
    have h1 := hv _ (gs_mem (l := l) (i := k) (by omega))
    have h2 : 0 ≤ (gs l k).lo ∧ (gs l k).lo ≤ (gs l k).hi ∧ (gs l k).hi ≤ 60000 := by simpa [spanB] using h1
    exact addU_bd _ _ (fold_bd l hv k (by omega)) ⟨by omega, h2.2.2⟩
theorem AddSt.alloc {B : Nat} {w : World} {v : Value} {acc : List Sp} (h : AddSt B w v acc) (o : Obj) : AddSt B (w.alloc o) v acc :=
  ⟨((Below.alloc (Below.refl _ _) (Nat.le_refl _) o : Below w.heap.size w (w.alloc o)).block B (Array.getElem?_eq_some_iff.1 h.box).1).trans h.box, h.row.alloc _⟩
set_option maxRecDepth 100000 in
set_option maxHeartbeats 4000000 in
theorem united_any (A : Option Addr) (c : Nat) (l : List Sp) (w : World) (hl : l.length ≤ 1000) (hnil : A = none → l.length = 0 ∧ c = 0) (h : SpsAt w A l) (hv : ∀ x ∈ l, spanB x = true) :
    Calls Tryz.prog 40 #[.slice A l.length c] w fun e w' => ∃ l' v, l'.Perm l ∧ Asc l' ∧ e = .returned v ∧ w'.ownsRow w.heap.size 39 2 v (uniteL l').length (spcs (uniteL l')) ∧ Below w.heap.size w w' := by
  have HCL := Lib.hid (fun W (hW : Below w.heap.size w W) => clone_sps A c l W (by omega) hnil (h.below hW))
  have HVL := Lib.hid hv
  have HLL := Lib.hid hl
  clear h hnil hv
  have MK := Lib.hid True.intro
  go_enter Tryz.func40, Tryz.ntmps40
  go_upto_region 3 with (first | (go_at_call 53; refine (HCL.out _ (Below.refl _ _)).mono ?_; rintro e w1 ⟨v1, rfl, ho1, hb1⟩; obtain ⟨A1, c1, rfl, -⟩ := own_slice ho1; have HB1 := Lib.hid hb1; have HO1 := Lib.hid ho1; clear ho1 hb1 HCL) | (go_at_call 54; refine (sort_row w.heap.size _ l _ HO1.out HB1.out.size (by have := HLL.out; omega) HVL.out).mono ?_; rintro e w2 ⟨rfl, l', hp, hs, ho2, hb2⟩; have HB2 := Lib.hid (HB1.out.trans hb2); have HO2 := Lib.hid ho2; have HP := Lib.hid hp; have HS := Lib.hid hs; clear ho2 hb2 hp hs))
  have HSP := Lib.hid (own_sps HO2.out)
  have hlen : l'.length = l.length := HP.out.length_eq
  have HV2 := Lib.hid (fun x (hx : x ∈ l') => HVL.out x (HP.out.mem_iff.1 hx))
  have HLE := Lib.hid hlen
  clear hlen HVL
  obtain ⟨n, hn⟩ : ∃ n, l.length = n := ⟨_, rfl⟩
  rw [hn] at HLE HLL hl ⊢
  clear hn
  go_upto_region 6 with fail
  go_loopw [15] (fun i wr => ∃ k : Nat, k ≤ n ∧ i = .int .i64 k ∧ Hid (∃ v, AddSt w2.heap.size wr v ((l'.take k).foldl addU [])) ∧ Hid (Below w2.heap.size w2 wr)) (fun i _ => n - (intOf i).toNat)
  case atStart => exact ⟨0, by omega, rfl, Lib.hid ⟨_, heap_alloc_new w2 _, World.ownsRow_nil _ _ _ _⟩, Lib.hid bel⟩
  case round =>
    obtain ⟨k, hk, rfl, HST, HB⟩ := hrel
    by_cases hlt : k < n
    · obtain ⟨b, o, rfl, r0, r1⟩ := (HSP.out.below HB.out).nat k (by rw [HLE.out]; exact hlt)
      have HS1 := Lib.hid (show (l'.take (k + 1)).foldl addU [] = addU ((l'.take k).foldl addU []) (gs l' k) by rw [take_gs l' k (by rw [HLE.out]; exact hlt), List.foldl_append]; rfl)
      have HF1 := Lib.hid (fold_len l' k (by rw [HLE.out]; exact hk))
      have HF2 := Lib.hid (fold_bd l' HV2.out k (by rw [HLE.out]; exact hk))
      generalize (l'.take k).foldl addU [] = acc at *
      generalize gs l' (k : Int) = s at *
      obtain ⟨v, hst⟩ := HST.out
      have HT := Lib.hid hst
      clear hst HST
      go_wp2_with (go_at_call 56; refine (add_any w2.heap.size v acc s _ (HT.out.alloc _) (by have := HF1.out; have := HLL.out; omega) (fun x hx => by have := HF2.out x hx; omega)).mono ?_; rintro e w4 ⟨rfl, v4, ht4, hb4⟩; have HB4 := Lib.hid ((HB.out.alloc HB.out.size _).trans hb4); have HT4 := Lib.hid ht4; clear ht4 hb4)
      go_roundw
      case rel => exact ⟨k + 1, by omega, by go_num, Lib.hid ⟨_, by rw [HS1.out]; exact HT4.out⟩, HB4⟩
      case measure => simp [intOf]; omega
    · obtain rfl : k = n := by omega
      rw [show l'.take k = l' by rw [← HLE.out, List.take_length]] at HST
      obtain ⟨v, hst⟩ := HST.out
      obtain ⟨A5, c5, rfl, -⟩ := own_slice hst.row
      obtain ⟨u0, g0, m0⟩ := cells1 hst.box
      have HT := Lib.hid hst
      clear hst HST
      go_wp2
      go_ret
      exact ⟨l', _, HP.out, HS.out, rfl, own_base HT.out.row (by have := HB2.out.size; omega), HB2.out.trans (HB.out.mono HB2.out.size)⟩
end Go.Proofs.YteoembjghmgbhaaGreatDoor
