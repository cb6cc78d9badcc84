/- The law FlowOrder: another order of the links, the plain part. -/
import Derived.Test.YtmhiiomejopaoaaGreatDoorS1
namespace Go.Proofs.YtmhiiomejopaoaaGreatDoor
set_option linter.all false
set_option maxRecDepth 100000
open Go.RowKit

structure SameL (l m : List Lk) : Prop where
  len : m.length = l.length
  mem : ∀ q, q ∈ m ↔ q ∈ l
theorem SameL.symm {l m : List Lk} (h : SameL l m) : SameL m l := ⟨h.len.symm, fun q => (h.mem q).symm⟩
theorem rot_same (l : List Lk) (k : Nat) : SameL l (l.drop k ++ l.take k) := by
  refine ⟨by simp; omega, fun q => ?_⟩
  rw [List.mem_append]
  constructor
  · rintro (h | h)
    · exact List.mem_of_mem_drop h
    · exact List.mem_of_mem_take h
  · intro h
    rw [← List.take_append_drop k l] at h
    exact (List.mem_append.1 h).symm
theorem all_mem {l : List Lk} {P : Lk → Prop} : (∀ k : Nat, k < l.length → P (gl l k)) ↔ ∀ q ∈ l, P q := by
  constructor
  · intro h q hq
    obtain ⟨i, hi, e⟩ := List.mem_iff_getElem.1 hq
    have e2 : gl l (i : Int) = q := by rw [← e]; simp [gl, List.getD_eq_getElem?_getD, hi]
    rw [← e2]
    exact h i hi
  · intro h k hk
    refine h _ ?_
    have e2 : gl l (k : Int) = l[k] := by simp [gl, List.getD_eq_getElem?_getD, hk]
    rw [e2]
    exact List.getElem_mem hk
theorem same_all {l m : List Lk} (h : SameL l m) {P : Lk → Prop} (hp : ∀ k : Nat, k < l.length → P (gl l k)) : ∀ k : Nat, k < m.length → P (gl m k) :=
  all_mem.2 fun q hq => all_mem.1 hp q ((h.mem q).1 hq)
theorem netOk_same {n : Int} {l m : List Lk} (h : SameL l m) (hok : NetOk n l) : NetOk n m :=
  ⟨hok.n1, hok.n2, by rw [h.len]; exact hok.l1, fun k hk => hok.lk k ((h.mem k).1 hk)⟩
theorem sol_half {n : Nat} {l m : List Lk} (h : SameL l m) (hok : NetOk n l) (hs : (solutionL n l).2 = true) : (solutionL n m).2 = true :=
  sol_any (netOk_same h hok) (x := fun v => gi (solutionL n l).1 v) fun k hk => (solution_pot hok hs).fit k ((h.mem k).1 hk)
theorem sol_same {n : Nat} {l m : List Lk} (h : SameL l m) (hok : NetOk n l) : (solutionL n m).2 = (solutionL n l).2 := by
  rw [Bool.eq_iff_iff]
  exact ⟨sol_half h.symm (netOk_same h hok), sol_half h hok⟩
theorem cut_same {n : Nat} {l m : List Lk} {w : List Int} (h : SameL l m) (hc : Cut n l w) : Cut n m w := by
  obtain ⟨P, h1, h2⟩ := hc
  exact ⟨P, same_all h (P := fun q => P q.a = true → P q.b = true) h1, h2⟩
theorem max_same {n : Nat} {l m : List Lk} {w : List Int} {a b : Int} (h : SameL l m) (ha : MaxAt n l w a) (hb : MaxAt n m w b) : a = b := by
  obtain ⟨x, x1, x2⟩ := ha.at_
  obtain ⟨y, y1, y2⟩ := hb.at_
  have h1 := hb.le x (same_all h (P := fun q => x q.b ≤ x q.a + q.m) x1)
  have h2 := ha.le y (same_all h.symm (P := fun q => y q.b ≤ y q.a + q.m) y1)
  omega
theorem asked_same {n : Int} {l m : List Lk} {w : List Int} (h : SameL l m) (hok : NetOk n l) : askedI n m w = askedI n l w := by
  unfold askedI
  rw [ok_check hok, ok_check (netOk_same h hok)]
theorem most_same {n : Nat} {l m : List Lk} (h : SameL l m) (hok : NetOk n l) (hn : n ≤ 12) (hl : l.length ≤ 60) (v : List Int) : ∃ r, MostP 2000000 n l v = some r ∧ MostP 2000000 n m v = some r := by
  have hokm := netOk_same h hok
  by_cases ha : askedI n l v = 0
  · have hb : askedI n m v = 0 := by rw [asked_same h hok]; exact ha
    obtain ⟨r, hr, c⟩ := most_facts ha hn hl
    obtain ⟨q, hq, d⟩ := most_facts hb hn (by rw [h.len]; exact hl)
    have hs := sol_same h hok
    have hlk : ∀ {l : List Lk}, NetOk n l → ∀ k : Nat, k < l.length → 0 ≤ (gl l k).a ∧ (gl l k).a < n ∧ 0 ≤ (gl l k).b ∧ (gl l k).b < n := fun hok k hk => by
      have := (netOk_lk hok hn).lk k hk
      omega
    have e : r = q := by
      rcases c with ⟨c1, c2⟩ | ⟨c1, c2, c3⟩ | ⟨a, u, c1, c2, c3, c4, c5, _⟩
      · rcases d with ⟨d1, d2⟩ | ⟨d1, d2, d3⟩ | ⟨b, t, d1, d2, d3, d4, d5, _⟩
        · rw [c1, d1]
        · rw [hs, c2] at d2; cases d2
        · rw [hs, c2] at d2; cases d2
      · rcases d with ⟨d1, d2⟩ | ⟨d1, d2, d3⟩ | ⟨b, t, d1, d2, d3, d4, d5, _⟩
        · rw [hs, c2] at d2; cases d2
        · rw [c1, d1]
        · exact (cut_none (hlk hokm) (cut_same h c3) d3 d4).elim
      · rcases d with ⟨d1, d2⟩ | ⟨d1, d2, d3⟩ | ⟨b, t, d1, d2, d3, d4, d5, _⟩
        · rw [hs, c2] at d2; cases d2
        · exact (cut_none (hlk hok) (cut_same h.symm d3) c3 c4).elim
        · rw [c1, d1, max_same h c5 d5]
    exact ⟨r, hr, e ▸ hq⟩
  · have hb : ¬ askedI n m v = 0 := by rw [asked_same h hok]; exact ha
    refine ⟨(0, askedI n l v), by unfold MostP; rw [if_neg ha], ?_⟩
    unfold MostP
    rw [if_neg hb, asked_same h hok]
theorem least_same {n : Nat} {l m : List Lk} (h : SameL l m) (hok : NetOk n l) (hn : n ≤ 12) (hl : l.length ≤ 60) (v : List Int) : ∃ r, LeastP 2000000 n l v = some r ∧ LeastP 2000000 n m v = some r := by
  obtain ⟨r, h1, h2⟩ := most_same h hok hn hl (turnedL v)
  exact ⟨(wrap64 (-r.1), r.2), by unfold LeastP; rw [h1]; rfl, by unfold LeastP; rw [h2]; rfl⟩
theorem cons_same {n : Nat} {l m : List Lk} (h : SameL l m) (hok : NetOk n l) : consR n m = consR n l := by
  unfold consR
  rw [ok_check hok, ok_check (netOk_same h hok), Int.toNat_natCast, sol_same h hok]
theorem wk_same {l m : List Lk} {s v c : Int} (h : SameL l m) (hw : Wk l s v c) : Wk m s v c := by
  induction hw with
  | nil => exact .nil
  | snoc _ hk ih => exact .snoc ih ((h.mem _).2 hk)
theorem tr_wk {l : List Lk} {d : List Int} {s v : Int} (h0 : gi d s = 0) (h : TR l d s v) : Wk l s v (gi d v) := by
  induction h with
  | nil => rw [h0]; exact .nil
  | snoc _ hk _ e ih => rw [e]; exact .snoc ih hk
theorem bnd_half {n : Nat} {l m : List Lk} {s t : Int} {d e : List Int} (h : SameL l m) (hok : NetOk n l) (hd : BndOk n l s d) (he : BndOk n m s e) (ht0 : 0 ≤ t) (ht1 : t < n) (hf : gi d t ≠ free) : gi e t ≠ free ∧ gi e t ≤ gi d t := by
  have hw := wk_same h (tr_wk hd.at_ (hd.tr t ht0 ht1 hf))
  refine (wk_le (n := n) (fun k hk => ?_) he.at_ (fun v h0 h1 => ?_) he.fix hw).1
  · have := (netOk_same h hok).lk k hk
    exact ⟨this.1, this.2.2⟩
  · rcases he.hi v h0 h1 with h2 | h2
    · exact .inl h2
    · exact .inr h2.2
theorem bnd_same {n : Nat} {l m : List Lk} {s t : Int} {d e : List Int} (h : SameL l m) (hok : NetOk n l) (hd : BndOk n l s d) (he : BndOk n m s e) (ht0 : 0 ≤ t) (ht1 : t < n) : gi e t = gi d t := by
  by_cases hf : gi d t = free
  · by_cases hg : gi e t = free
    · rw [hf, hg]
    · exact absurd hf (bnd_half h.symm (netOk_same h hok) he hd ht0 ht1 hg).1
  · obtain ⟨h1, h2⟩ := bnd_half h hok hd he ht0 ht1 hf
    have h3 := bnd_half h.symm (netOk_same h hok) he hd ht0 ht1 h1
    omega
theorem bound_same {n : Nat} {l m : List Lk} {s t : Int} (h : SameL l m) (hok : NetOk n l) : boundR n m s t = boundR n l s t := by
  have hokm := netOk_same h hok
  unfold boundR
  rw [ok_check hok, ok_check hokm, Int.toNat_natCast, sol_same h hok]
  by_cases h1 : nodeB n s = false ∨ nodeB n t = false
  · rw [if_pos h1, if_pos h1]
  · rw [if_neg h1, if_neg h1]
    have hs : nodeB n s = true := by cases hh : nodeB n s with
      | true => rfl
      | false => exact absurd (.inl hh) h1
    have ht : nodeB n t = true := by cases hh : nodeB n t with
      | true => rfl
      | false => exact absurd (.inr hh) h1
    obtain ⟨s0, s1⟩ := node_in hs hok.n1 hok.n2
    obtain ⟨t0, t1⟩ := node_in ht hok.n1 hok.n2
    by_cases hsol : (solutionL n l).2 = false
    · rw [if_pos hsol, if_pos hsol]
    · have hsol' : (solutionL n l).2 = true := by simpa using hsol
      have hsolm : (solutionL n m).2 = true := by rw [sol_same h hok]; exact hsol'
      rw [if_neg hsol, if_neg hsol, (bounds_same hok hsol' s0 s1).1, (bounds_same hokm hsolm s0 s1).1, bnd_same h hok (bnd_ok hok hsol' s0 s1) (bnd_ok hokm hsolm s0 s1) t0 t1]
end Go.Proofs.YtmhiiomejopaoaaGreatDoor
