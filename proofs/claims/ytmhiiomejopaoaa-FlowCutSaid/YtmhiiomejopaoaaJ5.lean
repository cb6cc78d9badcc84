/- The flow laws: the cutter's walks, plain; the walk of root; the words of rings. -/
import Derived.Test.YtmhiiomejopaoaaJ2
import Derived.Test.YtmhiiomejopaoaaO3
import Derived.Test.YtmhiiomejopaoaaM3
namespace Go.Proofs.Ytmhiiomejopaoaa
set_option linter.all false
open Go.RowKit
set_option maxRecDepth 100000

theorem look_del : ∀ (m : List (Int × Value)) (k j : Int), (m.map (·.1)).Nodup → lookI (delI m k) j = if j = k then none else lookI m j
  | [], k, j, _ => by simp [delI, lookI]
  | (k', v') :: m, k, j, h => by
    have h2 : (m.map (·.1)).Nodup := (List.nodup_cons.1 (by simpa using h)).2
    have h3 : k' ∉ m.map (·.1) := (List.nodup_cons.1 (by simpa using h)).1
    have hno : ∀ m : List (Int × Value), k' ∉ m.map (·.1) → lookI m k' = none := by
      intro m
      induction m with
      | nil => intro _; rfl
      | cons p m ih =>
        obtain ⟨a, b⟩ := p
        intro h
        simp only [List.map_cons, List.mem_cons, not_or] at h
        unfold lookI
        have : (a == k') = false := by simpa using fun e => h.1 e.symm
        rw [this]
        exact ih h.2
    unfold delI
    by_cases e : k' = k
    · subst e
      rw [if_pos (by simp)]
      by_cases e2 : j = k'
      · subst e2; rw [if_pos rfl]; exact hno m h3
      · rw [if_neg e2]
        conv => rhs; unfold lookI
        have : (k' == j) = false := by simpa using fun e => e2 e.symm
        rw [this]; rfl
    · have e1 : (k' == k) = false := by simpa using e
      rw [e1]
      simp only [Bool.false_eq_true, if_false, lookI]
      rw [look_del m k j h2]
      by_cases e2 : k' = j
      · subst e2; simp [e]
      · have e3 : (k' == j) = false := by simpa using e2
        simp [e3]
theorem keys_put : ∀ (m : List (Int × Value)) (k : Int) (v : Value), (putI m k v).map (·.1) = if k ∈ m.map (·.1) then m.map (·.1) else m.map (·.1) ++ [k]
  | [], k, v => by simp [putI]
  | (k', v') :: m, k, v => by
    unfold putI
    by_cases e : k' = k
    · subst e; simp
    · have e1 : (k' == k) = false := by simpa using e
      rw [e1]
      simp only [Bool.false_eq_true, if_false, List.map_cons, List.mem_cons]
      rw [keys_put m k v]
      by_cases e2 : k ∈ m.map (·.1)
      · rw [if_pos e2, if_pos (.inr e2)]
      · rw [if_neg e2, if_neg (by rintro (h | h); exact e h.symm; exact e2 h)]
        rfl
theorem put_nodup {m : List (Int × Value)} (k : Int) (v : Value) (h : (m.map (·.1)).Nodup) : ((putI m k v).map (·.1)).Nodup := by
  rw [keys_put]
  split
  · exact h
  · rename_i hn
    rw [List.nodup_append]
    exact ⟨h, by simp, fun a ha b hb => by simp at hb; subst hb; exact fun e => hn (e ▸ ha)⟩
theorem del_sub : ∀ (m : List (Int × Value)) (k : Int), ((delI m k).map (·.1)).Sublist (m.map (·.1))
  | [], _ => by simp [delI]
  | (k', v') :: m, k => by
    unfold delI
    split
    · simp
    · simpa using del_sub m k
theorem del_nodup {m : List (Int × Value)} (k : Int) (h : (m.map (·.1)).Nodup) : ((delI m k).map (·.1)).Nodup := (del_sub m k).nodup h

/-- The walk of a search for rings: its nodes differ, none is done, its links bear units. -/
structure Rg (N : Nat) (l : List Lk) (us : List Int) (D : Int → Bool) (s : Int) (P : List Int) (t : Int) : Prop where
  walk : ∃ c, WI l s P t c
  dif : ∀ i j : Nat, i < j → j ≤ P.length → nd l s P i ≠ nd l s P j
  nod : ∀ j : Nat, j ≤ P.length → D (nd l s P j) = false
  pos : ∀ i ∈ P, 0 < gi us i
  in_ : ∀ j : Nat, j ≤ P.length → 0 ≤ nd l s P j ∧ nd l s P j < N
/-- The map of the places of a walk's nodes. -/
structure Plc (l : List Lk) (s : Int) (P : List Int) (m : List (Int × Value)) : Prop where
  nodup : (m.map (·.1)).Nodup
  here : ∀ j : Nat, j ≤ P.length → lookI m (nd l s P j) = some (.int .i64 j)
  not : ∀ v, (∀ j : Nat, j ≤ P.length → nd l s P j ≠ v) → lookI m v = none
section
variable {N : Nat} {l : List Lk} {us : List Int} {D : Int → Bool} {s t : Int} {P : List Int} {m : List (Int × Value)}
theorem Rg.last (h : Rg N l us D s P t) : nd l s P P.length = t := by obtain ⟨c, hc⟩ := h.walk; exact hc.nodes.1
theorem Rg.short (h : Rg N l us D s P t) : P.length < N := by
  refine Classical.byContradiction fun hn => ?_
  obtain ⟨i, j, h1, h2, h3⟩ := pigeon N (fun j => (nd l s P j).toNat) (fun j hj => by have := h.in_ j (by omega); omega)
  have q1 := h.in_ i (by omega)
  have q2 := h.in_ j (by omega)
  exact h.dif i j h1 (by omega) (by have : (nd l s P i).toNat = (nd l s P j).toNat := h3; omega)
theorem Rg.nil (hs : 0 ≤ s ∧ s < N) (hd : D s = false) : Rg N l us D s [] s :=
  ⟨⟨0, .nil⟩, fun i j h1 h2 => by simp at h2; omega, fun j hj => by simp at hj; subst hj; exact hd, fun i hi => by simp at hi, fun j hj => by simp at hj; subst hj; exact hs⟩
theorem nd_last (i : Int) : nd l s (P ++ [i]) (P.length + 1) = (gl l i).b := by
  unfold nd
  rw [if_neg (by omega), Nat.add_sub_cancel]
  have := gi_app_right (P := P) (Q := [i]) 0
  rw [Nat.add_zero] at this
  rw [this]; rfl
theorem Rg.snoc (h : Rg N l us D s P t) {k : Nat} (hk : k < l.length) (hn : NextB l us t D k) (hb : 0 ≤ (gl l k).b ∧ (gl l k).b < N) (hne : ∀ j : Nat, j ≤ P.length → nd l s P j ≠ (gl l k).b) : Rg N l us D s (P ++ [(k : Int)]) (gl l k).b := by
  obtain ⟨c, hc⟩ := h.walk
  refine ⟨⟨_, .snoc hc (by omega) (by omega) hn.1⟩, fun i j h1 h2 => ?_, fun j hj => ?_, fun i hi => ?_, fun j hj => ?_⟩
  · simp at h2
    rw [nd_app (by omega)]
    by_cases e : j = P.length + 1
    · subst e; rw [nd_last]; exact hne i (by omega)
    · rw [nd_app (by omega)]; exact h.dif i j h1 (by omega)
  · simp at hj
    by_cases e : j = P.length + 1
    · subst e; rw [nd_last]; exact hn.2.2
    · rw [nd_app (by omega)]; exact h.nod j (by omega)
  · rcases List.mem_append.1 hi with hi | hi
    · exact h.pos i hi
    · simp at hi; subst hi; exact hn.2.1
  · simp at hj
    by_cases e : j = P.length + 1
    · subst e; rw [nd_last]; exact hb
    · rw [nd_app (by omega)]; exact h.in_ j (by omega)
theorem Plc.nil (s : Int) : Plc l s [] (putI [] s (.int .i64 0)) :=
  ⟨by simp [putI], fun j hj => by simp at hj; subst hj; simp [putI, lookI, nd], fun v hv => by
    have := hv 0 (by simp)
    have e : (s == v) = false := by simpa [nd] using this
    simp [putI, lookI, e]⟩
theorem Plc.snoc (h : Plc l s P m) {k : Nat} (hne : ∀ j : Nat, j ≤ P.length → nd l s P j ≠ (gl l k).b) : Plc l s (P ++ [(k : Int)]) (putI m (gl l k).b (.int .i64 ((P.length + 1 : Nat) : Int))) := by
  refine ⟨put_nodup _ _ h.nodup, fun j hj => ?_, fun v hv => ?_⟩
  · simp at hj
    rw [look_put]
    by_cases e : j = P.length + 1
    · subst e; rw [nd_last, if_pos rfl]
    · rw [nd_app (by omega), if_neg (hne j (by omega))]; exact h.here j (by omega)
  · rw [look_put]
    have h1 := hv (P.length + 1) (by simp)
    rw [nd_last] at h1
    rw [if_neg (fun e => h1 e.symm)]
    refine h.not v fun j hj => ?_
    have := hv j (by simp; omega)
    rwa [nd_app hj] at this
/-- The walk without its last link. -/
theorem Rg.pop {i : Int} (h : Rg N l us D s (P ++ [i]) t) (D' : Int → Bool) (hD : ∀ v, v ≠ t → D' v = D v) : Rg N l us D' s P (gl l i).a ∧ (gl l i).b = t ∧ 0 ≤ i ∧ i < l.length := by
  obtain ⟨c, hc⟩ := h.walk
  obtain ⟨u, c1, c2, w1, w2, -⟩ := hc.split P [i] rfl
  have hlast := h.last
  simp only [List.length_append, List.length_singleton] at hlast
  rw [nd_last] at hlast
  obtain ⟨n1, n2⟩ := hc.nodes
  have hg : gi (P ++ [i]) ((P.length : Nat) : Int) = i := by
    have := gi_app_right (P := P) (Q := [i]) 0
    rw [Nat.add_zero] at this
    rw [this]; rfl
  have q := n2 P.length (by simp)
  rw [hg, nd_app (Nat.le_refl _), w1.nodes.1] at q
  refine ⟨⟨⟨c1, by rw [q.1]; exact w1⟩, fun a b h1 h2 => ?_, fun j hj => ?_, fun a ha => h.pos a (by simp [ha]), fun j hj => ?_⟩, hlast, q.2.1, q.2.2⟩
  · have := h.dif a b h1 (by simp; omega)
    rwa [nd_app (by omega), nd_app (by omega)] at this
  · have q1 := h.nod j (by simp; omega)
    have q2 := h.dif j (P.length + 1) (by omega) (by simp)
    rw [nd_app hj] at q1 q2
    rw [nd_last, hlast] at q2
    rw [hD _ q2]; exact q1
  · have := h.in_ j (by simp; omega)
    rwa [nd_app hj] at this
theorem Plc.pop {i : Int} (h : Plc l s (P ++ [i]) m) (hd : ∀ j : Nat, j ≤ P.length → nd l s P j ≠ t) (ht : (gl l i).b = t) : Plc l s P (delI m t) := by
  refine ⟨del_nodup _ h.nodup, fun j hj => ?_, fun v hv => ?_⟩
  · rw [look_del _ _ _ h.nodup, if_neg (hd j hj)]
    have := h.here j (by simp; omega)
    rwa [nd_app hj] at this
  · rw [look_del _ _ _ h.nodup]
    by_cases e : v = t
    · rw [if_pos e]
    · rw [if_neg e]
      refine h.not v fun j hj => ?_
      simp at hj
      by_cases e2 : j = P.length + 1
      · subst e2; rw [nd_last, ht]; exact fun h => e h.symm
      · rw [nd_app (by omega)]; exact hv j (by omega)
theorem Rg.dif_last {i : Int} (h : Rg N l us D s (P ++ [i]) t) : ∀ j : Nat, j ≤ P.length → nd l s P j ≠ t := fun j hj => by
  have q := h.dif j (P.length + 1) (by omega) (by simp)
  rw [nd_app hj, nd_last] at q
  have e := h.last
  simp only [List.length_append, List.length_singleton] at e
  rw [nd_last] at e
  rwa [e] at q
theorem nd_drop {k : Nat} (hk : k ≤ P.length) (j : Nat) : nd l (nd l s P k) (P.drop k) j = nd l s P (k + j) := by
  have h1 : nd l s (P.take k) (P.take k).length = nd l s P k := by
    have := nd_app (l := l) (s := s) (P := P.take k) (Q := P.drop k) (j := k) (by simp; omega)
    rw [List.take_append_drop] at this
    rw [this, List.length_take, Nat.min_eq_left hk]
  have := nd_app_right (l := l) (s := s) (P := P.take k) (Q := P.drop k) h1 j
  rw [List.take_append_drop, List.length_take, Nat.min_eq_left hk] at this
  exact this.symm
/-- A link back to a node of the walk closes a ring. -/
theorem Rg.ring (h : Rg N l us D s P t) {k a : Nat} (hk : k < l.length) (hn : NextB l us t D k) (ha : a ≤ P.length) (he : nd l s P a = (gl l k).b) :
    ∃ c, WI l (gl l k).b ((P ++ [(k : Int)]).drop a) (gl l k).b c ∧ (P ++ [(k : Int)]).drop a ≠ [] ∧ Once l ((P ++ [(k : Int)]).drop a) ∧ ∀ i ∈ (P ++ [(k : Int)]).drop a, 0 < gi us i := by
  obtain ⟨c, hc⟩ := h.walk
  obtain ⟨u, c1, c2, w1, w2, -⟩ := hc.split (P.take a) (P.drop a) (List.take_append_drop a P).symm
  have hu : u = nd l s P a := by
    rw [← w1.nodes.1]
    have := nd_app (l := l) (s := s) (P := P.take a) (Q := P.drop a) (j := a) (by simp; omega)
    rw [List.take_append_drop] at this
    rw [this, List.length_take, Nat.min_eq_left ha]
  rw [hu] at w2
  have hd : (P ++ [(k : Int)]).drop a = P.drop a ++ [(k : Int)] := by rw [List.drop_append_of_le_length ha]
  have w3 : WI l (gl l k).b (P.drop a ++ [(k : Int)]) (gl l k).b (c2 + (gl l k).m) := by
    have := WI.snoc w2 (i := (k : Int)) (by omega) (by omega) hn.1
    rw [he] at this
    exact this
  have hnd : ∀ j : Nat, j ≤ (P.drop a).length → nd l (gl l k).b (P.drop a ++ [(k : Int)]) j = nd l s P (a + j) := fun j hj => by
    rw [nd_app hj, ← he, nd_drop ha]
  have hlen : (P.drop a).length = P.length - a := List.length_drop
  refine ⟨_, by rw [hd]; exact w3, by rw [hd]; simp, ?_, fun i hi => ?_⟩
  · rw [hd]
    refine once_of w3 (fun i j h1 h2 => ?_) fun i h1 h2 => ?_
    · simp only [List.length_append, List.length_singleton] at h2
      rw [hnd i (by omega), hnd j (by omega)]
      exact h.dif _ _ (by omega) (by omega)
    · simp only [List.length_append, List.length_singleton] at h2
      rw [hnd i (by omega), ← he]
      exact fun e => h.dif a (a + i) (by omega) (by omega) e.symm
  · rw [hd] at hi
    rcases List.mem_append.1 hi with hi | hi
    · exact h.pos i (List.mem_of_mem_drop hi)
    · simp at hi; subst hi; exact hn.2.1
/-- A walk that goes down. -/
structure Dn (l : List Lk) (us : List Int) (r : Int → Nat) (s : Int) (P : List Int) (t : Int) : Prop where
  walk : ∃ c, WI l s P t c
  pos : ∀ i ∈ P, 0 < gi us i
  dn : ∀ i j : Nat, i < j → j ≤ P.length → r (nd l s P j) < r (nd l s P i)
variable {r : Int → Nat}
theorem Dn.nil : Dn l us r s [] s := ⟨⟨0, .nil⟩, fun i hi => by simp at hi, fun i j h1 h2 => by simp at h2; omega⟩
theorem Dn.snoc (h : Dn l us r s P t) {k : Nat} (hk : k < l.length) (h1 : (gl l k).a = t) (h2 : 0 < gi us k) (hr : r (gl l k).b < r (gl l k).a) : Dn l us r s (P ++ [(k : Int)]) (gl l k).b := by
  obtain ⟨c, hc⟩ := h.walk
  refine ⟨⟨_, .snoc hc (by omega) (by omega) h1⟩, fun i hi => ?_, fun i j h3 h4 => ?_⟩
  · rcases List.mem_append.1 hi with hi | hi
    · exact h.pos i hi
    · simp at hi; subst hi; exact h2
  · simp at h4
    rw [nd_app (by omega : i ≤ P.length)]
    by_cases e : j = P.length + 1
    · subst e
      rw [nd_last]
      have e2 := hc.nodes.1
      rw [h1, ← e2] at hr
      by_cases e3 : i = P.length
      · rw [e3]; exact hr
      · have := h.dn i P.length (by omega) (Nat.le_refl _); omega
    · rw [nd_app (by omega)]; exact h.dn i j h3 (by omega)
theorem Dn.once (h : Dn l us r s P t) : Once l P ∧ (P ≠ [] → s ≠ t) := by
  obtain ⟨c, hc⟩ := h.walk
  have e2 := hc.nodes.1
  refine ⟨once_of hc (fun i j h1 h2 e => ?_) fun i h1 h2 e => ?_, fun hne e => ?_⟩
  · have := h.dn i j h1 (by omega); rw [e] at this; omega
  · have := h.dn i P.length h2 (Nat.le_refl _); rw [e, e2] at this; omega
  · have h0 : 0 < P.length := by cases P with | nil => exact absurd rfl hne | cons _ _ => simp
    have := h.dn 0 P.length h0 (Nat.le_refl _)
    rw [e2, ← e] at this
    have h3 : nd l s P 0 = s := rfl
    rw [h3] at this
    omega
end
/-- A node at which units begin and none end. -/
def RootIs (N : Nat) (l : List Lk) (us : List Int) (v : Int) : Prop :=
  (v = -1 ∧ ∀ x : Nat, x < N → (∃ k : Nat, k < l.length ∧ 0 < gi us k ∧ (gl l k).a = x) → ∃ k : Nat, k < l.length ∧ 0 < gi us k ∧ (gl l k).b = x) ∨
  (0 ≤ v ∧ v < N ∧ (∃ k : Nat, k < l.length ∧ 0 < gi us k ∧ (gl l k).a = v) ∧ ∀ k : Nat, k < l.length → 0 < gi us k → (gl l k).b ≠ v)

theorem put_has (S : List Int) (k x : Int) : (putS S k).contains x = true ↔ S.contains x = true ∨ x = k := by
  unfold putS
  by_cases e : S.contains k = true
  · rw [if_pos e]
    constructor
    · exact .inl
    · rintro (h | rfl)
      · exact h
      · exact e
  · rw [if_neg e]; simp
/-- The two sets of root: where the first k links with units begin and end. -/
structure RtW (w : World) (b1 b2 : Nat) (l : List Lk) (us : List Int) (k : Nat) : Prop where
  m1 : ∃ S, MapI w b1 (setI S) ∧ ∀ x, S.contains x = true ↔ ∃ j : Nat, j < k ∧ 0 < gi us j ∧ (gl l j).a = x
  m2 : ∃ S, MapI w b2 (setI S) ∧ ∀ x, S.contains x = true ↔ ∃ j : Nat, j < k ∧ 0 < gi us j ∧ (gl l j).b = x
section
variable {w w' : World} {b1 b2 : Nat} {l : List Lk} {us : List Int} {k : Nat}
theorem RtW.start (w : World) : RtW ((w.alloc (.map #[] 0)).alloc (.map #[] 0)) w.heap.size (w.heap.size + 1) l us 0 := by
  refine ⟨⟨[], (MapI.made w).alloc _, fun x => ?_⟩, ⟨[], ?_, fun x => ?_⟩⟩
  · simp
  · have := MapI.made (w.alloc (.map #[] 0))
    have e : (w.alloc (.map #[] 0)).heap.size = w.heap.size + 1 := by simp
    rw [e] at this
    exact this
  · simp
theorem RtW.below (h : RtW w b1 b2 l us k) (hb : Below w.heap.size w w') : RtW w' b1 b2 l us k := by
  obtain ⟨⟨S, h1, h2⟩, ⟨T, h3, h4⟩⟩ := h
  exact ⟨⟨S, h1.below hb, h2⟩, ⟨T, h3.below hb, h4⟩⟩
theorem RtW.skip (h : RtW w b1 b2 l us k) (hn : ¬ 0 < gi us k) : RtW w b1 b2 l us (k + 1) := by
  obtain ⟨⟨S, h1, h2⟩, ⟨T, h3, h4⟩⟩ := h
  refine ⟨⟨S, h1, fun x => (h2 x).trans ⟨fun ⟨j, q1, q2⟩ => ⟨j, by omega, q2⟩, fun ⟨j, q1, q2, q3⟩ => ⟨j, ?_, q2, q3⟩⟩⟩, ⟨T, h3, fun x => (h4 x).trans ⟨fun ⟨j, q1, q2⟩ => ⟨j, by omega, q2⟩, fun ⟨j, q1, q2, q3⟩ => ⟨j, ?_, q2, q3⟩⟩⟩⟩
  all_goals
    by_cases e : j = k
    · subst e; exact absurd q2 hn
    · omega
end
theorem has_step {S : List Int} {l : List Lk} {us : List Int} {k : Nat} {f : Lk → Int} (h : ∀ x, S.contains x = true ↔ ∃ j : Nat, j < k ∧ 0 < gi us j ∧ f (gl l j) = x) (hp : 0 < gi us k) (x : Int) : (putS S (f (gl l k))).contains x = true ↔ ∃ j : Nat, j < k + 1 ∧ 0 < gi us j ∧ f (gl l j) = x := by
  rw [put_has, h]
  constructor
  · rintro (⟨j, q1, q2⟩ | rfl)
    · exact ⟨j, by omega, q2⟩
    · exact ⟨k, by omega, hp, rfl⟩
  · rintro ⟨j, q1, q2, q3⟩
    by_cases e : j = k
    · subst e; exact .inr q3.symm
    · exact .inl ⟨j, by omega, q2, q3⟩
set_option maxRecDepth 100000 in
set_option maxHeartbeats 4000000 in
theorem root_any {w : World} {R : Nat → Prop} {B q g : Nat} {N : Nat} {A : Option Addr} {c : Nat} {l : List Lk} {us : List Int} {cap : Nat} {ov : Value} {ps : List PV} (h : CutW w R B q g (N : Int) A c l us cap ov ps) (hl : l.length ≤ 1000) (hu : us.length = l.length) (hN : N ≤ 1000) :
    Calls Try.prog 99 #[.pointer (some ⟨q, 0, none⟩)] w fun e w' => (∃ r, e = .returned (.int .i64 r) ∧ RootIs N l us r) ∧ Below w.heap.size w w' := by
  have HC := Lib.hid h
  have HU := Lib.hid hu
  clear h hu
  obtain ⟨c0, c1, c2, c3⟩ := HC.out.cells
  have lq := HC.out.lq
  obtain ⟨W0, hW0⟩ : ∃ W0, W0 = (w.alloc (.map #[] 0)).alloc (.map #[] 0) := ⟨_, rfl⟩
  have HR0 := Lib.hid (show RtW W0 w.heap.size (w.heap.size + 1) l us 0 by rw [hW0]; exact RtW.start w)
  have HB0 := Lib.hid (show Below w.heap.size w W0 by rw [hW0]; exact bel)
  have HS0 := Lib.hid (show w.heap.size + 2 ≤ W0.heap.size by rw [hW0]; simp)
  have HW0 := Lib.hid hW0
  clear hW0
  have hmm := @run_makeMap Try.prog
  go_enter Try.func99, Try.ntmps99
  go_upto_region 2 with fail
  rw [← HW0.out]
  clear hmm c0 c1 c2 c3 lq
  obtain ⟨c0, c1, c2, c3⟩ := (HC.out.below HB0.out).cells
  have lq := (HC.out.below HB0.out).lq
  go_wp2
  clear c0 c1 c2 c3 lq
  go_loopw [16] (fun i wr => ∃ k : Nat, k ≤ l.length ∧ i = .int .i64 (k : Int) ∧ Hid (RtW wr w.heap.size (w.heap.size + 1) l us k) ∧ Hid (Below w.heap.size w wr) ∧ Hid (w.heap.size + 2 ≤ wr.heap.size)) (fun i _ => l.length - (intOf i).toNat)
  case atStart => exact ⟨0, by omega, rfl, HR0, HB0, HS0⟩
  case round =>
    obtain ⟨k, hk, rfl, HRT, HBr, HSr⟩ := hrel
    by_cases hkl : k < l.length
    · have t1 : decide ((k : Int) < (l.length : Int)) = true := decide_eq_true (by omega)
      have HC2 := Lib.hid (HC.out.below HBr.out)
      have HU2 := Lib.hid (show 0 < us.length by have := HU.out; omega)
      obtain ⟨c0, c1, c2', c3⟩ := HC2.out.cells
      have c2 := c2' HU2.out
      clear c2'
      have lq := HC2.out.lq
      obtain ⟨b, o, rfl, g1, g2, g3⟩ := HC2.out.lks.nat k hkl
      obtain ⟨x, hx⟩ : ∃ x, gl l (k : Int) = x := ⟨_, rfl⟩
      rw [hx] at g1 g2 g3
      have HX := Lib.hid hx
      clear hx
      obtain ⟨xa, xb, xm⟩ := x
      simp only at g1 g2 g3
      have gu := (HC2.out.row HU2.out).cell k (by have := HU.out; omega)
      have lg := HC2.out.lg
      have lb := World.block_lt_of_cell? _ _ g1
      dsimp only at lb
      obtain ⟨uk, huk⟩ : ∃ uk, gi us (k : Int) = uk := ⟨_, rfl⟩
      rw [huk] at gu
      have HUK := Lib.hid huk
      clear huk
      have i2 : (k : Int) < (us.length : Int) := by have := HU.out; omega
      by_cases hup : 0 < uk
      · have hup2 : decide (0 < uk) = true := decide_eq_true hup
        go_upto_region 6 with fail
        obtain ⟨W1, hW1⟩ : ∃ W1, W1 = wr.alloc (.cells #[.int .i64 xa, .int .i64 xb, .int .i64 xm] 39) := ⟨_, rfl⟩
        have HB1 := Lib.hid (show Below wr.heap.size wr W1 by rw [hW1]; exact bel)
        have HD1 := Lib.hid (show W1.cell? ⟨wr.heap.size, 0, none⟩ = some (.int .i64 xa) ∧ W1.cell? ⟨wr.heap.size, 1, none⟩ = some (.int .i64 xb) ∧ wr.heap.size < W1.heap.size by rw [hW1]; exact ⟨by go_simp, by go_simp, by simp⟩)
        rw [← hW1]
        clear hW1 c0 c1 c2 c3 lq g1 g2 g3 gu lg lb
        obtain ⟨d0, d1, dl⟩ := HD1.out
        obtain ⟨⟨S, hm1, hs1⟩, ⟨T, hm2, hs2⟩⟩ := HRT.out.below HB1.out
        have HM1 := Lib.hid hm1
        have HM2 := Lib.hid hm2
        have HPK := Lib.hid (show 0 < gi us (k : Int) by rw [HUK.out]; exact hup)
        have HE1 := Lib.hid (has_step (f := Lk.a) hs1 HPK.out)
        have HE2 := Lib.hid (has_step (f := Lk.b) hs2 HPK.out)
        rw [HX.out] at HE1 HE2
        clear hm1 hm2 hs1 hs2
        refine wp_region_held_drew (S := fun w' => w'.cell? ⟨wr.heap.size, 0, none⟩ = some (.int .i64 xa) ∧ w'.cell? ⟨wr.heap.size, 1, none⟩ = some (.int .i64 xb)) (by kernel_rfl) ⟨d0, d1⟩ (fun hHeld => ?_)
        refine wpAnyH_take (i := 0) (v := ?_) rfl (by kernel_rfl) (by kernel_rfl) (by kernel_rfl) (fun _ _ _ h => h) (Or.inl ⟨by rfl, ?hyy⟩) (by assumption) ?_
        case hyy => (intro w hSw; (try dsimp only at hSw); go_simp; all_goals (with_reducible rfl))
        try simp only [List.getElem_toArray, List.getElem_cons_zero, List.getElem_cons_succ, Act.put, List.setIfInBounds_toArray, List.set_cons_zero, List.set_cons_succ]
        refine wpAnyH_take (i := 1) (v := ?_) rfl (by kernel_rfl) (by kernel_rfl) (by kernel_rfl) (fun _ _ _ h => h) (Or.inl ⟨by rfl, ?hyy⟩) (by assumption) ?_
        case hyy => (intro w hSw; (try dsimp only at hSw); go_simp; all_goals (with_reducible rfl))
        try simp only [List.getElem_toArray, List.getElem_cons_zero, List.getElem_cons_succ, Act.put, List.setIfInBounds_toArray, List.set_cons_zero, List.set_cons_succ]
        refine wpAnyH_take (i := 2) (v := ?_) rfl (by kernel_rfl) (by kernel_rfl) (by kernel_rfl) (fun _ _ _ h => h) (Or.inl ⟨by rfl, ?hyy⟩) (by assumption) ?_
        case hyy => (intro w hSw; (try dsimp only at hSw); go_simp; all_goals (with_reducible rfl))
        try simp only [List.getElem_toArray, List.getElem_cons_zero, List.getElem_cons_succ, Act.put, List.setIfInBounds_toArray, List.set_cons_zero, List.set_cons_succ]
        refine wpAnyH_take (i := 3) (v := ?_) rfl (by kernel_rfl) (by kernel_rfl) (by kernel_rfl) (fun _ _ _ h => h) (Or.inl ⟨by rfl, ?hyy⟩) (by assumption) ?_
        case hyy => (intro w hSw; (try dsimp only at hSw); go_simp; all_goals (with_reducible rfl))
        try simp only [List.getElem_toArray, List.getElem_cons_zero, List.getElem_cons_succ, Act.put, List.setIfInBounds_toArray, List.set_cons_zero, List.set_cons_succ]
        refine wpAnyH_take (i := 4) (v := ?_) rfl (by kernel_rfl) (by kernel_rfl) (by kernel_rfl) (fun _ _ _ h => h) (Or.inl ⟨by rfl, ?hyy⟩) (by assumption) ?_
        case hyy => (intro w hSw; (try dsimp only at hSw); go_simp; all_goals (with_reducible rfl))
        try simp only [List.getElem_toArray, List.getElem_cons_zero, List.getElem_cons_succ, Act.put, List.setIfInBounds_toArray, List.set_cons_zero, List.set_cons_succ]
        refine wpAnyH_take (i := 5) (v := ?_) rfl (by kernel_rfl) (by kernel_rfl) (by kernel_rfl) (fun _ _ _ h => h) (Or.inl ⟨by rfl, ?hyy⟩) (by assumption) ?_
        case hyy => (intro w hSw; (try dsimp only at hSw); go_simp; all_goals (with_reducible rfl))
        try simp only [List.getElem_toArray, List.getElem_cons_zero, List.getElem_cons_succ, Act.put, List.setIfInBounds_toArray, List.set_cons_zero, List.set_cons_succ]
        refine wpAnyH_ready (rs := [6]) (by kernel_rfl) (by simp) ?_
        refine AllReadyH.cons rfl (fun K hK => ?_) AllReadyH.nil
        obtain ⟨w2, hrun2, hr2, hg2⟩ := HM1.out.drew.put u80 xa (.bool true)
        go_simp
        rw [put_set] at hr2
        have HM22 := Lib.hid (HM2.out.drew.grown hg2 (by simp))
        refine hK.out _ _ ⟨cell_grown hg2 (by have := HSr.out; simp; omega) d0, cell_grown hg2 (by have := HSr.out; simp; omega) d1⟩ (fun hHeldN1 => ?_)
        clear hK K
        try simp only [List.getElem_toArray, List.getElem_cons_zero, List.getElem_cons_succ, Act.put, List.setIfInBounds_toArray, List.set_cons_zero, List.set_cons_succ]
        refine wpAnyH_ready (rs := [7]) (by kernel_rfl) (by simp) ?_
        refine AllReadyH.cons rfl (fun K hK => ?_) AllReadyH.nil
        obtain ⟨w3, hrun3, hr3, hg3⟩ := HM22.out.put u80 xb (.bool true)
        go_simp
        rw [put_set] at hr3
        have HR23 := Lib.hid (hr2.grown hg3 (by simp))
        have HR3 := Lib.hid hr3
        refine hK.out _ _ ⟨cell_grown hg3 (by have := HSr.out; simp; omega) (cell_grown hg2 (by have := HSr.out; simp; omega) d0), cell_grown hg3 (by have := HSr.out; simp; omega) (cell_grown hg2 (by have := HSr.out; simp; omega) d1)⟩ (fun hHeldN2 => ?_)
        clear hK K
        try simp only [List.getElem_toArray, List.getElem_cons_zero, List.getElem_cons_succ, Act.put, List.setIfInBounds_toArray, List.set_cons_zero, List.set_cons_succ]
        refine wpAnyH_done (by kernel_rfl) ?_ _
        have HG2 := Lib.hid (show W1.grownBy w2 (some w.heap.size) from World.grownBy.trans (grown_drew (grown_refl W1 _)) hg2)
        have HG3 := Lib.hid hg3
        clear hrun2 hrun3 hr2 hr3 hg2 hg3 d0 d1 dl
        go_wp2_with fail
        go_roundw
        case rel => exact ⟨k + 1, by omega, by go_num, Lib.hid ⟨⟨_, HR23.out, HE1.out⟩, ⟨_, HR3.out, HE2.out⟩⟩, Lib.hid (by
          have hz := HSr.out
          have z1 := below_trans HBr.out HB1.out
          have z2 := below_of_grown z1 HG2.out (Nat.le_trans (by omega) HB1.out.size) (Nat.le_refl _)
          exact below_of_grown z2 HG3.out (Nat.le_trans (Nat.le_trans (by omega) HB1.out.size) HG2.out.size) (by omega)), Lib.hid (Nat.le_trans HSr.out (Nat.le_trans HB1.out.size (Nat.le_trans HG2.out.size HG3.out.size)))⟩
        case measure => simp [intOf]; omega
      · have hup2 : decide (0 < uk) = false := decide_eq_false hup
        have HRS := Lib.hid (HRT.out.skip (by rw [HUK.out]; exact hup))
        go_wp2
        go_roundw
        case rel => exact ⟨k + 1, by omega, by go_num, Lib.hid (HRS.out.below bel), Lib.hid (below_trans HBr.out bel), Lib.hid (by have := HSr.out; simp; omega)⟩
        case measure => simp [intOf]; omega
    · obtain rfl : k = l.length := by omega
      have t1 : decide ((l.length : Int) < (l.length : Int)) = false := decide_eq_false (by omega)
      have HBR := Lib.hid HBr.out
      clear HBr
      obtain ⟨c0, c1, c2, c3⟩ := (HC.out.below HBR.out).cells
      have lq := (HC.out.below HBR.out).lq
      go_wp2
      clear c0 c1 c2 c3 lq
      obtain ⟨⟨S, hm1, hs1⟩, ⟨T, hm2, hs2⟩⟩ := HRT.out
      have HM1 := Lib.hid hm1
      have HM2 := Lib.hid hm2
      have HS1 := Lib.hid hs1
      have HS2 := Lib.hid hs2
      clear hm1 hm2 hs1 hs2
      go_loopw [41] (fun i wx => ∃ v : Nat, v ≤ N ∧ i = .int .i64 (v : Int) ∧ Hid (∀ x : Nat, x < v → (S.contains (x : Int) && !T.contains (x : Int)) = false) ∧ Hid (Below wr.heap.size wr wx)) (fun i _ => N - (intOf i).toNat)
      case atStart => exact ⟨0, by omega, rfl, Lib.hid (fun x hx => by omega), Lib.hid (Below.refl _ _)⟩
      case round =>
        rename_i wo _ _ _
        obtain ⟨v, hv, rfl, HV, HBx⟩ := hrel
        by_cases hvN : v < N
        · have t2 : decide ((v : Int) < (N : Int)) = true := decide_eq_true (by omega)
          have l1 := (HM1.out.below HBx.out).look u80 (zero4 _) v
          have l2 := (HM2.out.below HBx.out).look u80 (zero4 _) v
          rw [look_set] at l1 l2
          cases hS : S.contains (v : Int)
          · rw [hS] at l1
            have HV2 := Lib.hid (show ∀ x : Nat, x < v + 1 → (S.contains (x : Int) && !T.contains (x : Int)) = false from fun x hx => by
              by_cases e : x = v
              · subst e; rw [hS]; rfl
              · exact HV.out x (by omega))
            clear hS
            go_wp2
            go_roundw
            case rel => exact ⟨v + 1, by omega, by go_num, HV2, HBx⟩
            case measure => simp [intOf]; omega
          · rw [hS] at l1
            cases hT : T.contains (v : Int)
            · rw [hT] at l2
              have HY := Lib.hid (show RootIs N l us (v : Int) from .inr ⟨by omega, by omega, (HS1.out v).1 hS, fun k hk hp e => by
                have := (HS2.out (v : Int)).2 ⟨k, hk, hp, e⟩
                rw [hT] at this; cases this⟩)
              clear hS hT
              go_wp2
              go_ret
              exact ⟨⟨_, rfl, HY.out⟩, below_trans HBR.out HBx.out⟩
            · rw [hT] at l2
              have HV2 := Lib.hid (show ∀ x : Nat, x < v + 1 → (S.contains (x : Int) && !T.contains (x : Int)) = false from fun x hx => by
                by_cases e : x = v
                · subst e; rw [hS, hT]; rfl
                · exact HV.out x (by omega))
              clear hS hT
              go_wp2
              go_roundw
              case rel => exact ⟨v + 1, by omega, by go_num, HV2, HBx⟩
              case measure => simp [intOf]; omega
        · obtain rfl : v = N := by omega
          have t2 : decide ((v : Int) < (v : Int)) = false := decide_eq_false (by omega)
          have HY := Lib.hid (show RootIs v l us (-1) from .inl ⟨rfl, fun x hx hb => by
            have h1 := (HS1.out (x : Int)).2 hb
            have h2 := HV.out x hx
            rw [h1] at h2
            exact (HS2.out (x : Int)).1 (by simpa using h2)⟩)
          go_wp2
          go_ret
          exact ⟨⟨_, rfl, HY.out⟩, below_trans HBR.out HBx.out⟩

theorem own_not_map {w : World} {base n sz : Nat} {e : TypeId} {v : Value} {xs : List Value} {b : Nat} {m : List (Int × Value)} (h : w.ownsRow base e sz v n xs) (hm : MapI w b m) : v.ownBlock ≠ some b := by
  intro e1
  obtain ⟨es, cl, h1, -⟩ := hm
  rcases h.2 with ⟨rfl, -⟩ | ⟨g, cap, cur, rfl, -, hh, -⟩
  · cases e1
  · have e2 : g = b := Option.some.inj e1
    subst e2
    rw [h1] at hh
    cases hh
theorem own_pop {w : World} {base g n cap : Nat} {P : List Int} {i : Int} (h : w.ownsRow base 3 1 (.slice (some ⟨g, 0, none⟩) (n + 1) cap) (P ++ [i]).length (ints (P ++ [i]))) (hn : P.length = n) : w.ownsRow base 3 1 (.slice (some ⟨g, 0, none⟩) n cap) P.length (ints P) := by
  subst hn
  rw [List.length_append, List.length_singleton] at h
  refine ⟨by simp [ints], ?_⟩
  rcases h.2 with ⟨e, -⟩ | ⟨g', cap', cur, e, h1, h2, h3, h4, h5, h6⟩
  · cases e
  · cases e
    refine .inr ⟨g, cap, cur, rfl, h1, h2, by omega, h4, h5, ?_⟩
    have e2 : ints (P ++ [i]) = ints P ++ [.int .i64 i] := by simp [ints]
    rw [e2] at h6
    have h7 := congrArg (List.take (P.length * 1)) h6
    rw [List.take_take] at h7
    rw [Nat.min_eq_left (by omega)] at h7
    rw [h7]
    have : (ints P).length = P.length * 1 := by simp [ints]
    rw [← this, List.take_left]
/-- The heap of the inner loop. -/
structure Rh (wb wr : World) (md mp : Nat) (S P : List Int) (m : List (Int × Value)) (vl : Value) : Prop where
  mapp : MapI wr mp m
  row : wr.ownsRow wb.heap.size 3 1 vl P.length (ints P)
  map : MapI wr md (setI S)
  fr : Fr wb wr (fun k => k = md)
  mpb : wb.heap.size ≤ mp
  mdb : md < wb.heap.size
section
variable {wb wr w' : World} {md mp : Nat} {S P : List Int} {m : List (Int × Value)} {vl v' : Value}
theorem grown_of_below (hb : Below wr.heap.size wr w') : wr.grownBy w' none := ⟨hb.os, hb.tape, hb.output, hb.size, fun k hk _ => hb.block k hk⟩
theorem Rh.below (h : Rh wb wr md mp S P m vl) (hb : Below wr.heap.size wr w') : Rh wb w' md mp S P m vl :=
  ⟨h.mapp.below hb, h.row.kept (grown_of_below hb) (by cases vl.ownBlock <;> simp), h.map.below hb, h.fr.below hb, h.mpb, h.mdb⟩
theorem Rh.hB (h : Rh wb wr md mp S P m vl) : wb.heap.size ≤ wr.heap.size := h.fr.size
theorem Rh.push (h : Rh wb wr md mp S P m vl) {i : Int} (ho : w'.ownsRow wb.heap.size 3 1 v' (P.length + 1) (ints P ++ [.int .i64 i])) (hg : wr.grownBy w' vl.ownBlock) : Rh wb w' md mp S (P ++ [i]) m v' :=
  ⟨h.mapp.grown hg (fun e => own_not_map h.row h.mapp e.symm), by rw [List.length_append]; simpa [ints] using ho, h.map.grown hg (fun e => own_not_map h.row h.map e.symm), h.fr.grown hg (fun k e => .inr (h.row.lt k e).1), h.mpb, h.mdb⟩
theorem Rh.place (h : Rh wb wr md mp S P m vl) {m' : List (Int × Value)} (hm : MapI w' mp m') (hg : wr.grownBy w' (some mp)) : Rh wb w' md mp S P m' vl :=
  ⟨hm, h.row.kept hg (.inr (own_not_map h.row h.mapp)), h.map.grown hg (by have := h.mpb; have := h.mdb; simp; omega), h.fr.grown hg (fun k e => .inr (by cases e; exact h.mpb)), h.mpb, h.mdb⟩
theorem Rh.mark (h : Rh wb wr md mp S P m vl) {S' : List Int} (hm : MapI w' md (setI S')) (hg : wr.grownBy w' (some md)) : Rh wb w' md mp S' P m vl :=
  ⟨h.mapp.grown hg (by have := h.mpb; have := h.mdb; simp; omega), h.row.kept hg (.inr (own_not_map h.row h.map)), hm, h.fr.grown hg (fun k e => .inl (by cases e; rfl)), h.mpb, h.mdb⟩
theorem Rh.pop {i : Int} {g n cap : Nat} (h : Rh wb wr md mp S (P ++ [i]) m (.slice (some ⟨g, 0, none⟩) (n + 1) cap)) (hn : P.length = n) : Rh wb wr md mp S P m (.slice (some ⟨g, 0, none⟩) n cap) :=
  ⟨h.mapp, own_pop h.row hn, h.map, h.fr, h.mpb, h.mdb⟩
theorem Rh.slice (h : Rh wb wr md mp S P m vl) (hP : 0 < P.length) : ∃ g cap, vl = .slice (some ⟨g, 0, none⟩) P.length cap ∧ P.length ≤ cap ∧ IntsAt wr (some ⟨g, 0, none⟩) P ∧ wb.heap.size ≤ g ∧ g < wr.heap.size := by
  obtain ⟨A, c, e, hc, h3, h4⟩ := own_slice h.row
  rcases h.row.2 with ⟨-, e0⟩ | ⟨g, cap, cur, e1, h5, h6, h7, _⟩
  · omega
  · subst e1
    exact ⟨g, cap, rfl, h7, own_ints h.row, h5, (Array.getElem?_eq_some_iff.1 h6).1⟩
end
/-- The plain part of the inner loop. -/
structure Rq (N : Nat) (l : List Lk) (us : List Int) (s : Int) (S P : List Int) (t : Int) (m : List (Int × Value)) : Prop where
  rg : Rg N l us (fun x => S.contains x) s P t
  plc : Plc l s P m
  dn : ∃ r K, DoneOk l us (fun x => S.contains x) r K
  inN : ∀ x, S.contains x = true → 0 ≤ x ∧ x < N
def Mm (N : Nat) (S : List Int) (n : Nat) : Nat := (N + 2) * (N - cntB (fun v => S.contains (v : Int)) N) + (N - n)
theorem Mm_mark {N : Nat} {S : List Int} {t : Int} {n n' : Nat} (h : S.contains t = false) (ht : 0 ≤ t ∧ t < N) (hn' : n' + 1 = n ∨ n' = n) (hn : n ≤ N) : Mm N (putS S t) n' < Mm N S n := by
  have h1 : cntB (fun v => S.contains (v : Int)) N < cntB (fun v => (putS S t).contains (v : Int)) N := by
    have e : ((t.toNat : Nat) : Int) = t := by omega
    refine cntB_lt (j := t.toNat) (by rw [e]; exact h) (by rw [e]; exact (put_has S t t).2 (.inr rfl)) N (by omega) fun i hi hb => (put_has S t _).2 (.inl hb)
  have h2 := cntB_max (fun v => (putS S t).contains (v : Int)) N
  unfold Mm
  obtain ⟨d, hd⟩ : ∃ d, N - cntB (fun v => S.contains (v : Int)) N = d + 1 := ⟨N - cntB (fun v => S.contains (v : Int)) N - 1, by omega⟩
  have h3 : N - cntB (fun v => (putS S t).contains (v : Int)) N ≤ d := by omega
  have h4 := Nat.mul_le_mul_left (N + 2) h3
  rw [hd, Nat.mul_add, Nat.mul_one]
  omega
theorem Mm_snoc {N : Nat} {S : List Int} {n : Nat} (hn : n < N) : Mm N S (n + 1) < Mm N S n := by unfold Mm; omega
section
variable {N : Nat} {l : List Lk} {us : List Int} {s t : Int} {S P : List Int} {m : List (Int × Value)} {k : Nat}
theorem Rq.start (hs : 0 ≤ s ∧ s < N) (hd : S.contains s = false) (dn : ∃ r K, DoneOk l us (fun x => S.contains x) r K) (inN : ∀ x, S.contains x = true → 0 ≤ x ∧ x < N) : Rq N l us s S [] s (putI [] s (.int .i64 0)) :=
  ⟨Rg.nil hs hd, Plc.nil s, dn, inN⟩
theorem Rq.tN (h : Rq N l us s S P t m) : 0 ≤ t ∧ t < N ∧ S.contains t = false := by
  have q := h.rg.in_ P.length (Nat.le_refl _)
  have d := h.rg.nod P.length (Nat.le_refl _)
  rw [h.rg.last] at q d
  exact ⟨q.1, q.2, d⟩
theorem Rq.snoc (h : Rq N l us s S P t m) (hk : k < l.length) (hn : NextB l us t (fun x => S.contains x) k) (hb : 0 ≤ (gl l k).b ∧ (gl l k).b < N) (hne : lookI m (gl l k).b = none) : Rq N l us s S (P ++ [(k : Int)]) (gl l k).b (putI m (gl l k).b (.int .i64 ((P.length + 1 : Nat) : Int))) := by
  have hne2 : ∀ j : Nat, j ≤ P.length → nd l s P j ≠ (gl l k).b := fun j hj e => by
    have := h.plc.here j hj
    rw [e, hne] at this
    cases this
  exact ⟨h.rg.snoc hk hn hb hne2, h.plc.snoc hne2, h.dn, h.inN⟩
/-- What is found in the map of places. -/
theorem Rq.found (h : Rq N l us s S P t m) {x : Int} {v : Value} (hf : lookI m x = some v) : ∃ a : Nat, a ≤ P.length ∧ v = .int .i64 (a : Int) ∧ nd l s P a = x := by
  refine Classical.byContradiction fun hn => ?_
  have := h.plc.not x fun j hj e => hn ⟨j, hj, by
    have h2 := h.plc.here j hj
    rw [e, hf] at h2
    exact Option.some.inj h2, e⟩
  rw [hf] at this
  cases this
theorem put_ne (S : List Int) {t x : Int} (e : x ≠ t) : (putS S t).contains x = S.contains x := by
  have := put_has S t x
  cases h : S.contains x
  · cases h2 : (putS S t).contains x
    · rfl
    · rcases this.1 h2 with h3 | h3
      · rw [h] at h3; cases h3
      · exact absurd h3 e
  · exact this.2 (.inl h)
theorem setD_put (S : List Int) (t : Int) : (fun x => (putS S t).contains x) = setD (fun x => S.contains x) t := by
  funext x
  unfold setD
  by_cases e : x = t
  · subst e; rw [if_pos rfl]; exact (put_has S x x).2 (.inr rfl)
  · rw [if_neg e]; exact put_ne S e
theorem Rq.done (h : Rq N l us s S P t m) (hn : ∀ k : Nat, k < l.length → ¬ NextB l us t (fun x => S.contains x) k) : (∃ r K, DoneOk l us (fun x => (putS S t).contains x) r K) ∧ ∀ x, (putS S t).contains x = true → 0 ≤ x ∧ x < N := by
  obtain ⟨t1, t2, t3⟩ := h.tN
  refine ⟨?_, fun x hx => ?_⟩
  · obtain ⟨r, K, hd⟩ := h.dn
    rw [setD_put]
    refine ⟨_, _, hd.mark t3 fun k hk e hp => ?_⟩
    cases hc : S.contains (gl l k).b
    · exact absurd ⟨e, hp, hc⟩ (hn k hk)
    · rfl
  · rcases (put_has S t x).1 hx with h2 | rfl
    · exact h.inN x h2
    · exact ⟨t1, t2⟩
theorem Rq.pop {i : Int} (h : Rq N l us s S (P ++ [i]) t m) (hn : ∀ k : Nat, k < l.length → ¬ NextB l us t (fun x => S.contains x) k) : Rq N l us s (putS S t) P (gl l i).a (delI m t) ∧ 0 ≤ i ∧ i < l.length := by
  obtain ⟨d1, d2⟩ := h.done hn
  obtain ⟨r1, r2, r3, r4⟩ := h.rg.pop (fun x => (putS S t).contains x) fun v hv => put_ne S hv
  exact ⟨⟨r1, h.plc.pop h.rg.dif_last r2, d1, d2⟩, r3, r4⟩
end
theorem walk_ends {l : List Lk} {s t c : Int} {P : List Int} (h : WI l s P t c) (hne : P ≠ []) : (gl l (gi P 0)).a = s ∧ (gl l (gi P ((P.length - 1 : Nat) : Int))).b = t := by
  have h0 : 0 < P.length := by cases P with | nil => exact absurd rfl hne | cons _ _ => simp
  obtain ⟨n1, n2⟩ := h.nodes
  refine ⟨(n2 0 h0).1, ?_⟩
  rw [← n1]; unfold nd; rw [if_neg (by omega)]
/-- The state of rings, between two searches. -/
structure Rs (w wr : World) (B q g md N : Nat) (A : Option Addr) (c : Nat) (l : List Lk) (cap : Nat) (W u0 us : List Int) (ov : Value) (ps : List PV) (S : List Int) : Prop where
  cut : CutW wr (fun k => k = md) B q g (N : Int) A c l us cap ov ps
  cu : Cu N l W u0 us (ps.map (·.1))
  map : MapI wr md (setI S)
  dn : ∃ r K, DoneOk l us (fun x => S.contains x) r K
  inN : ∀ x, S.contains x = true → 0 ≤ x ∧ x < N
  bel : Below B w wr
  hB : B ≤ md
section
variable {w wr w' wb : World} {B q g md mp N : Nat} {A : Option Addr} {c : Nat} {l : List Lk} {cap : Nat} {W u0 us : List Int} {ov : Value} {ps : List PV} {S S' P : List Int} {m : List (Int × Value)} {vl : Value}
theorem Rs.hw (h : Rs w wr B q g md N A c l cap W u0 us ov ps S) : B ≤ wr.heap.size := Nat.le_trans h.hB (Nat.le_of_lt h.map.lt)
theorem Rs.below (h : Rs w wr B q g md N A c l cap W u0 us ov ps S) (hb : Below wr.heap.size wr w') : Rs w w' B q g md N A c l cap W u0 us ov ps S :=
  ⟨h.cut.below hb, h.cu, h.map.below hb, h.dn, h.inN, h.bel.trans (hb.mono h.hw), h.hB⟩
/-- Behind a search. -/
theorem Rs.inner (h : Rs w wb B q g md N A c l cap W u0 us ov ps S) (k : Rh wb wr md mp S' P m vl) (dn : ∃ r K, DoneOk l us (fun x => S'.contains x) r K) (inN : ∀ x, S'.contains x = true → 0 ≤ x ∧ x < N) : Rs w wr B q g md N A c l cap W u0 us ov ps S' :=
  ⟨h.cut.fr k.fr, h.cu, k.map, dn, inN, k.fr.toBelow h.bel h.hw (fun i e => by subst e; exact h.hB), h.hB⟩
/-- Behind take. -/
theorem Rs.taken (h : Rs w wr B q g md N A c l cap W u0 us ov ps S) (hlk : ∀ k : Nat, k < l.length → 0 ≤ (gl l k).a ∧ (gl l k).a < N ∧ 0 ≤ (gl l k).b ∧ (gl l k).b < N) {s c0 : Int} {Q : List Int} (hw : WI l s Q s c0) (hne : Q ≠ []) (ho : Once l Q) (hp : ∀ i ∈ Q, 0 < gi us i)
    {ov' v : Value} (hc : CutW w' (fun k => k = md) B q g (N : Int) A c l (addP Q (-(minU us Q)) us) cap ov' (ps ++ [(⟨(gl l (gi Q 0)).a, (gl l (gi Q ((Q.length - 1 : Nat) : Int))).b, Q, minU us Q⟩, v)])) (hf : Fr wr w' (fun k => k = q ∨ k = g ∨ ov.ownBlock = some k)) :
    Rs w w' B q g md N A c l cap W u0 (addP Q (-(minU us Q)) us) ov' (ps ++ [(⟨(gl l (gi Q 0)).a, (gl l (gi Q ((Q.length - 1 : Nat) : Int))).b, Q, minU us Q⟩, v)]) S ∧ cntB (posB (addP Q (-(minU us Q)) us)) l.length < cntB (posB us) l.length := by
  obtain ⟨k1, k2, k3, k4⟩ := h.cu.take hlk hw hne ho hp (fun e => absurd rfl e)
  obtain ⟨e1, e2⟩ := walk_ends hw hne
  refine ⟨⟨hc, ?_, h.map.same (hf.block md h.map.lt ?_), ?_, h.inN, hf.toBelow h.bel h.hw ?_, h.hB⟩, k2⟩
  · rw [List.map_append, List.map_singleton, e1, e2]; exact k1
  · rintro (e | e | e)
    · exact h.cut.rq e.symm
    · exact h.cut.rg e.symm
    · exact h.cut.ro md e rfl
  · obtain ⟨r, K, hd⟩ := h.dn
    exact ⟨r, K, hd.less k3⟩
  · rintro i (e | e | e)
    · subst e; exact h.cut.Bq
    · subst e; exact h.cut.Bg
    · exact (h.cut.own.lt i e).1
end
end Go.Proofs.Ytmhiiomejopaoaa
