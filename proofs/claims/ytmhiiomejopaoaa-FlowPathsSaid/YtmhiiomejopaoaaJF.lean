/- The flow laws: what the paths of a flow are together, plain. -/
import Derived.Test.YtmhiiomejopaoaaJB
import Derived.Test.YtmhiiomejopaoaaN2
namespace Go.Proofs.Ytmhiiomejopaoaa
set_option linter.all false
open Go.RowKit
set_option maxRecDepth 100000

theorem list_ext_gi {l m : List Int} (hl : l.length = m.length) (h : ∀ k : Nat, k < l.length → gi l k = gi m k) : l = m := by
  refine List.ext_getElem hl fun i h1 h2 => ?_
  have := h i h1
  simpa [gi, List.getD_eq_getElem?_getD, h1, h2] using this
theorem gi_rep (N k : Nat) : gi (List.replicate N 0) k = 0 := by
  simp [gi, List.getD_eq_getElem?_getD, List.getElem?_replicate]
  split <;> simp
theorem used_cons (p : Pa) (ps : List Pa) (k : Nat) : used (p :: ps) k = (if (k : Int) ∈ p.ls then p.u else 0) + used ps k := by simp [used]
theorem ends_cons (p : Pa) (ps : List Pa) (v : Int) : ends (p :: ps) v = p.u * (ind p.b v - ind p.a v) + ends ps v := by simp [ends]
theorem PaOk.mem {N : Nat} {l : List Lk} {p : Pa} (h : PaOk N l p) : ∀ i ∈ p.ls, 0 ≤ i ∧ i < l.length := by obtain ⟨c, hc⟩ := h.walk; exact hc.mem
theorem fold_used {N : Nat} {l : List Lk} : ∀ (ps : List PV) (s : List Int), s.length = l.length → (∀ p ∈ ps, PaOk N l p.1) → (ps.foldl (fun s p => addP p.1.ls p.1.u s) s).length = l.length ∧ ∀ k : Nat, k < l.length → gi (ps.foldl (fun s p => addP p.1.ls p.1.u s) s) k = gi s k + used (ps.map (·.1)) k
  | [], s, hs, _ => ⟨hs, fun k hk => by simp [used]⟩
  | p :: ps, s, hs, hp => by
    have h1 := hp p (by simp)
    obtain ⟨r1, r2⟩ := fold_used ps (addP p.1.ls p.1.u s) (by rw [addP_len]; exact hs) fun q hq => hp q (by simp [hq])
    refine ⟨r1, fun k hk => ?_⟩
    rw [List.foldl_cons, r2 k hk, addP_gi h1.once.nodup (by rw [hs]; exact h1.mem), List.map_cons, used_cons]
    omega
theorem joinU_used {N : Nat} {l : List Lk} {ps : List PV} (hp : ∀ p ∈ ps, PaOk N l p.1) : (joinU l.length ps).length = l.length ∧ ∀ k : Nat, k < l.length → gi (joinU l.length ps) k = used (ps.map (·.1)) k := by
  obtain ⟨r1, r2⟩ := fold_used ps (List.replicate l.length 0) (by simp) hp
  refine ⟨r1, fun k hk => ?_⟩
  have := r2 k hk
  rw [gi_rep] at this
  unfold joinU
  omega
/-- The sums of the ends. -/
def endsS (e : List Int) (p : PV) : List Int := if p.1.a = p.1.b then e else si (si e p.1.a (gi e p.1.a - p.1.u)) p.1.b (gi e p.1.b + p.1.u)
def endsL (N : Nat) (ps : List PV) : List Int := ps.foldl endsS (List.replicate N 0)
theorem endsS_len (e : List Int) (p : PV) : (endsS e p).length = e.length := by unfold endsS; split <;> simp [si]
theorem endsS_gi {N : Nat} {l : List Lk} {e : List Int} {p : PV} (he : e.length = N) (hp : PaOk N l p.1) (v : Nat) (hv : v < N) : gi (endsS e p) v = gi e v + p.1.u * (ind p.1.b v - ind p.1.a v) := by
  obtain ⟨⟨pa, pb, P, pu⟩, pv⟩ := p
  have ha := hp.from_
  have hb := hp.to_
  simp only at ha hb
  unfold endsS
  simp only
  by_cases e1 : pa = pb
  · subst e1
    rw [if_pos rfl, Int.sub_self, Int.mul_zero]; omega
  · rw [if_neg e1, gi_set_eq (z := si e pa (gi e pa - pu)) hb.1 (by simp [si]; omega) (by omega), gi_set_eq ha.1 (by omega) (by omega)]
    by_cases e2 : (v : Int) = pb
    · rw [if_pos e2, e2, ind_self, ind_ne e1]; omega
    · rw [if_neg e2]
      by_cases e3 : (v : Int) = pa
      · rw [if_pos e3, e3, ind_self, ind_ne (fun h => e1 h.symm)]; omega
      · rw [if_neg e3, ind_ne (fun h => e2 h.symm), ind_ne (fun h => e3 h.symm)]; omega
theorem fold_ends {N : Nat} {l : List Lk} : ∀ (ps : List PV) (e : List Int), e.length = N → (∀ p ∈ ps, PaOk N l p.1) → (ps.foldl endsS e).length = N ∧ ∀ v : Nat, v < N → gi (ps.foldl endsS e) v = gi e v + ends (ps.map (·.1)) v
  | [], e, he, _ => ⟨he, fun v hv => by simp [ends]⟩
  | p :: ps, e, he, hp => by
    obtain ⟨r1, r2⟩ := fold_ends ps (endsS e p) (by rw [endsS_len]; exact he) fun q hq => hp q (by simp [hq])
    refine ⟨r1, fun v hv => ?_⟩
    rw [List.foldl_cons, r2 v hv, endsS_gi he (hp p (by simp)) v hv, List.map_cons, ends_cons]
    omega
theorem endsL_ends {N : Nat} {l : List Lk} {ps : List PV} (hp : ∀ p ∈ ps, PaOk N l p.1) : (endsL N ps).length = N ∧ ∀ v : Nat, v < N → gi (endsL N ps) v = ends (ps.map (·.1)) v := by
  obtain ⟨r1, r2⟩ := fold_ends ps (List.replicate N 0) (by simp) hp
  refine ⟨r1, fun v hv => ?_⟩
  have := r2 v hv
  rw [gi_rep] at this
  unfold endsL
  omega
theorem endsL_take (N : Nat) (ps : List PV) (k : Nat) (h : k < ps.length) : endsL N (ps.take (k + 1)) = endsS (endsL N (ps.take k)) (gp ps k) := by unfold endsL; rw [fold_gp _ _ ps k h]
theorem endsL_bound {N : Nat} {l : List Lk} {ps : List PV} (hp : ∀ p ∈ ps, PaOk N l p.1) : ∀ k, k ≤ ps.length → (endsL N (ps.take k)).length = N ∧ ∀ v : Nat, v < N → -(k * 134217728) ≤ gi (endsL N (ps.take k)) v ∧ gi (endsL N (ps.take k)) v ≤ k * 134217728
  | 0, _ => ⟨by simp [endsL], fun v hv => by
    have : gi (endsL N (ps.take 0)) v = 0 := gi_rep N v
    rw [this]; omega⟩
  | k + 1, hk => by
    obtain ⟨r1, r2⟩ := endsL_bound hp k (by omega)
    have hq := hp _ (gp_mem (l := ps) (i := k) (by omega))
    rw [endsL_take N ps k (by omega)]
    refine ⟨by rw [endsS_len]; exact r1, fun v hv => ?_⟩
    rw [endsS_gi r1 hq v hv]
    have h1 := r2 v hv
    have h2 := hq.u
    have e : ((k + 1 : Nat) : Int) = (k : Int) + 1 := by omega
    rw [e]
    have h3 : ∀ a b : Int, ind a b = 0 ∨ ind a b = 1 := fun a b => by unfold ind; split <;> simp
    have h4 := h3 (gp ps k).1.b v
    have h5 := h3 (gp ps k).1.a v
    rcases h4 with h4 | h4 <;> rcases h5 with h5 | h5 <;> rw [h4, h5] <;> constructor <;> omega
/-- What ref.Paths looks at, of the paths of a flow. -/
theorem ps_goods {N : Nat} {l : List Lk} {x u : List Int} {ps : List PV} (hok : NetOk (N : Int) l) (h : PsOk N l x u (ps.map (·.1))) : ∀ p ∈ ps, PaOk N l p.1 ∧ (p.1.a ≠ p.1.b → gi x p.1.a < 0 ∧ 0 < gi x p.1.b) := fun p hp => h.ok p.1 (List.mem_map_of_mem hp)
theorem path_ok {N : Nat} {l : List Lk} {p : Pa} (hok : NetOk (N : Int) l) (h : PaOk N l p) : pathB l p.a p.b p.ls = true := by
  obtain ⟨c, hc⟩ := h.walk
  have hn2 := hok.n2
  have hm : ∀ k : Nat, k < l.length → -17179869184 ≤ (gl l k).m ∧ (gl l k).m ≤ 17179869184 := fun k hk => (hok.lk _ (gl_mem (l := l) (i := (k : Int)) (by omega) (by omega))).2.2
  have := (leads_iff (s := p.a) hm (by have := hok.l1; omega) (p := p.ls) (by have := h.short; omega) p.b c).2 hc
  unfold pathB
  rw [this]
  simp
theorem node_ok {N : Nat} {v : Int} (h1 : 1 ≤ N) (h2 : N ≤ 50) (h : 0 ≤ v ∧ v < N) : nodeB (N : Int) v = true := by
  unfold nodeB withinB
  rw [wrap_pred (by omega) (by omega)]
  simp only [Bool.and_eq_true, decide_eq_true_eq]
  omega
theorem good_of {N : Nat} {l : List Lk} {p : Pa} (hok : NetOk (N : Int) l) (h : PaOk N l p) : goodB (N : Int) l p = true := by
  have h1 := node_ok (N := N) (by have := hok.n1; omega) (by have := hok.n2; omega) h.from_
  have h2 := node_ok (N := N) (by have := hok.n1; omega) (by have := hok.n2; omega) h.to_
  have h3 := path_ok hok h
  have h4 := h.u
  have h5 := h.short
  have h6 := hok.n2
  unfold goodB
  rw [h1, h2, h3, show decide (260 < p.ls.length) = false from decide_eq_false (by omega), show withinB p.u 0 134217728 = true by simp [withinB]; omega]
  rfl
theorem sums_eq {N : Nat} {l : List Lk} {x u : List Int} {ps : List PV} (hok : NetOk (N : Int) l) (hx : x.length = N) (hu : u.length = l.length) (h : PsOk N l x u (ps.map (·.1))) : joinU l.length ps = u ∧ endsL N ps = x := by
  have hg := fun p hp => (ps_goods hok h p hp).1
  obtain ⟨a1, a2⟩ := joinU_used hg
  obtain ⟨b1, b2⟩ := endsL_ends hg
  exact ⟨list_ext_gi (by omega) fun k hk => by rw [a2 k (by omega), h.sum k (by omega)], list_ext_gi (by omega) fun v hv => by rw [b2 v (by omega), h.ends_ v (by omega)]⟩

def lsum (m : Int → Int) (P : List Int) : Int := P.foldl (fun s i => s + m i) 0
theorem lsum_acc (m : Int → Int) : ∀ (P : List Int) (a : Int), P.foldl (fun s i => s + m i) a = a + lsum m P
  | [], a => by simp [lsum]
  | i :: P, a => by
    have h1 := lsum_acc m P (a + m i)
    have h2 := lsum_acc m P (0 + m i)
    unfold lsum
    rw [List.foldl_cons, List.foldl_cons, h1, h2]; omega
theorem lsum_cons (m : Int → Int) (i : Int) (P : List Int) : lsum m (i :: P) = m i + lsum m P := by
  have := lsum_acc m P (0 + m i)
  unfold lsum at this ⊢
  rw [List.foldl_cons, this]; omega
theorem lsum_one : ∀ P : List Int, lsum (fun _ => 1) P = P.length
  | [] => by simp [lsum]
  | i :: P => by rw [lsum_cons, lsum_one P]; simp; omega
theorem ind_sum {L : Nat} (m : Int → Int) (u : Int) : ∀ P : List Int, P.Nodup → (∀ i ∈ P, 0 ≤ i ∧ i < L) → sumN (fun k => (if (k : Int) ∈ P then u else 0) * m k) L = u * lsum m P
  | [], _, _ => by rw [sumN_congr (h := fun _ => 0) L (fun i _ => by simp), sumN_zero]; simp [lsum]
  | i :: P, hn, hr => by
    obtain ⟨n1, n2⟩ := List.nodup_cons.1 hn
    have ih := ind_sum m u P n2 fun j hj => hr j (by simp [hj])
    have hi := hr i (by simp)
    have e := sumN_upd (g := fun k : Nat => (if (k : Int) ∈ i :: P then u else 0) * m k) (h := fun k : Nat => (if (k : Int) ∈ P then u else 0) * m k) (j := i.toNat) L (fun k hk hne => by
      have : ((k : Int) ∈ i :: P) ↔ ((k : Int) ∈ P) := by
        constructor
        · intro h
          rcases List.mem_cons.1 h with h | h
          · omega
          · exact h
        · intro h; exact List.mem_cons_of_mem _ h
      simp only [this])
    rw [e, ih, if_pos (by omega), show ((i.toNat : Nat) : Int) = i by omega, if_pos (by simp), if_neg n1, lsum_cons, Int.mul_add]
    omega
theorem used_nonneg {N : Nat} {l : List Lk} : ∀ ps : List PV, (∀ p ∈ ps, PaOk N l p.1) → ∀ k, 0 ≤ used (ps.map (·.1)) k
  | [], _, k => by simp [used]
  | p :: ps, h, k => by
    have h1 := used_nonneg ps (fun q hq => h q (by simp [hq])) k
    have h2 := (h p (by simp)).u
    rw [List.map_cons, used_cons]
    split <;> omega
theorem used_sum {N : Nat} {l : List Lk} (m : Int → Int) : ∀ (ps : List PV) (a : Int), (∀ p ∈ ps, PaOk N l p.1) → ps.foldl (fun s p => s + p.1.u * lsum m p.1.ls) a = a + sumN (fun k => used (ps.map (·.1)) k * m k) l.length
  | [], a, _ => by rw [sumN_congr (h := fun _ => 0) l.length (fun i _ => by simp [used]), sumN_zero]; simp
  | p :: ps, a, h => by
    have hp := h p (by simp)
    rw [List.foldl_cons, used_sum m ps _ fun q hq => h q (by simp [hq])]
    rw [sumN_congr (g := fun k : Nat => used ((p :: ps).map (·.1)) k * m k) (h := fun k : Nat => (if (k : Int) ∈ p.1.ls then p.1.u else 0) * m k + used (ps.map (·.1)) k * m k) l.length (fun k _ => by rw [List.map_cons, used_cons, Int.add_mul]), sumN_add, ind_sum m p.1.u p.1.ls hp.once.nodup hp.mem]
    omega
/-- The costs of paths together. -/
def cutS (l : List Lk) (ps : List PV) : Int := ps.foldl (fun s p => s + p.1.u * sumM l p.1.ls) 0
theorem cutS_take (l : List Lk) (ps : List PV) (k : Nat) (h : k < ps.length) : cutS l (ps.take (k + 1)) = cutS l (ps.take k) + (gp ps k).1.u * sumM l (gp ps k).1.ls := by unfold cutS; rw [fold_gp _ _ ps k h]
theorem joinS_used {N : Nat} {l : List Lk} {ps : List PV} (h : ∀ p ∈ ps, PaOk N l p.1) : joinS ps = sumN (fun k => used (ps.map (·.1)) k) l.length := by
  have := used_sum (fun _ => 1) ps 0 h
  rw [sumN_congr (h := fun k : Nat => used (ps.map (·.1)) k) l.length (fun k _ => by rw [Int.mul_one])] at this
  have e : ∀ (qs : List PV) (a : Int), qs.foldl (fun (s : Int) (p : PV) => s + (p.1.ls.length : Int) * p.1.u) a = qs.foldl (fun s p => s + p.1.u * lsum (fun _ => 1) p.1.ls) a := by
    intro qs
    induction qs with
    | nil => intro a; rfl
    | cons q qs ih => intro a; rw [List.foldl_cons, List.foldl_cons, lsum_one, Int.mul_comm, ih]
  unfold joinS
  rw [e, this]
  omega
theorem cutS_cost {N : Nat} {l : List Lk} {ps : List PV} (h : ∀ p ∈ ps, PaOk N l p.1) : cutS l ps = sumN (fun k => used (ps.map (·.1)) k * (gl l k).m) l.length := by
  have := used_sum (fun i => (gl l i).m) ps 0 h
  unfold cutS
  show ps.foldl (fun s p => s + p.1.u * lsum (fun i => (gl l i).m) p.1.ls) 0 = _
  rw [this]
  omega
theorem joinS_mono {N : Nat} {l : List Lk} {ps : List PV} (h : ∀ p ∈ ps, PaOk N l p.1) : ∀ k, k ≤ ps.length → 0 ≤ joinS (ps.take k) ∧ joinS (ps.take k) ≤ joinS ps := by
  have key : ∀ d k, k + d = ps.length → joinS (ps.take k) ≤ joinS ps := by
    intro d
    induction d with
    | zero => intro k hk; rw [show k = ps.length by omega, List.take_length]; exact Int.le_refl _
    | succ d ih =>
      intro k hk
      have h1 := ih (k + 1) (by omega)
      have hu := (h _ (gp_mem (l := ps) (i := k) (by omega))).u
      have h2 : 0 ≤ (((gp ps k).1.ls.length : Nat) : Int) * (gp ps k).1.u := Int.mul_nonneg (by omega) (by omega)
      rw [joinS_take ps k (by omega)] at h1
      omega
  have key2 : ∀ k, k ≤ ps.length → 0 ≤ joinS (ps.take k) := by
    intro k
    induction k with
    | zero => intro _; simp [joinS]
    | succ k ih =>
      intro hk
      have h1 := ih (by omega)
      have hu := (h _ (gp_mem (l := ps) (i := k) (by omega))).u
      have h2 : 0 ≤ (((gp ps k).1.ls.length : Nat) : Int) * (gp ps k).1.u := Int.mul_nonneg (by omega) (by omega)
      rw [joinS_take ps k (by omega)]
      omega
  exact fun k hk => ⟨key2 k hk, key (ps.length - k) k (by omega)⟩
theorem sumM_abs {l : List Lk} {P : List Int} (h : ∀ i ∈ P, -17179869184 ≤ (gl l i).m ∧ (gl l i).m ≤ 17179869184) : -(P.length * 17179869184) ≤ sumM l P ∧ sumM l P ≤ P.length * 17179869184 := by
  have := sumM_bound h P.length (Nat.le_refl _)
  rwa [List.take_length] at this
theorem cutS_bound {N : Nat} {l : List Lk} {ps : List PV} (hm : ∀ k : Nat, k < l.length → -17179869184 ≤ (gl l k).m ∧ (gl l k).m ≤ 17179869184) (h : ∀ p ∈ ps, PaOk N l p.1) : ∀ k, k ≤ ps.length → -(joinS (ps.take k) * 17179869184) ≤ cutS l (ps.take k) ∧ cutS l (ps.take k) ≤ joinS (ps.take k) * 17179869184 ∧ ∀ _ : k < ps.length, -((gp ps k).1.ls.length * (gp ps k).1.u * 17179869184) ≤ (gp ps k).1.u * sumM l (gp ps k).1.ls ∧ (gp ps k).1.u * sumM l (gp ps k).1.ls ≤ (gp ps k).1.ls.length * (gp ps k).1.u * 17179869184 := by
  have one : ∀ k, k < ps.length → -((gp ps k).1.ls.length * (gp ps k).1.u * 17179869184) ≤ (gp ps k).1.u * sumM l (gp ps k).1.ls ∧ (gp ps k).1.u * sumM l (gp ps k).1.ls ≤ (gp ps k).1.ls.length * (gp ps k).1.u * 17179869184 := by
    intro k hk
    have hp := h _ (gp_mem hk)
    obtain ⟨b1, b2⟩ := sumM_abs (l := l) (P := (gp ps k).1.ls) fun i hi => by
      have := hp.mem i hi
      have := hm i.toNat (by omega)
      rwa [show ((i.toNat : Nat) : Int) = i by omega] at this
    have hu := hp.u
    have e1 : (((gp ps k).1.ls.length : Nat) : Int) * (gp ps k).1.u * 17179869184 = (gp ps k).1.u * ((((gp ps k).1.ls.length : Nat) : Int) * 17179869184) := by
      rw [Int.mul_comm (((gp ps k).1.ls.length : Nat) : Int), Int.mul_assoc]
    rw [e1, ← Int.mul_neg]
    exact ⟨Int.mul_le_mul_of_nonneg_left b1 (by omega), Int.mul_le_mul_of_nonneg_left b2 (by omega)⟩
  intro k
  induction k with
  | zero => intro hk; exact ⟨by simp [cutS, joinS], by simp [cutS, joinS], fun h => one 0 h⟩
  | succ k ih =>
    intro hk
    obtain ⟨i1, i2, i3⟩ := ih (by omega)
    obtain ⟨o1, o2⟩ := i3 (by omega)
    rw [cutS_take l ps k (by omega), joinS_take ps k (by omega), Int.add_mul]
    exact ⟨by omega, by omega, fun h => one _ h⟩
end Go.Proofs.Ytmhiiomejopaoaa
