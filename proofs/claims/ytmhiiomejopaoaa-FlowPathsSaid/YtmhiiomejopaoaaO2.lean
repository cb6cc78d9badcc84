/- The flow laws: what Clash finds, plain. -/
import Derived.Test.YtmhiiomejopaoaaO1
import Derived.Test.YtmhiiomejopaoaaM9
namespace Go.Proofs.Ytmhiiomejopaoaa
set_option linter.all false
open Go.RowKit
set_option maxRecDepth 100000

theorem WI.nil_inv {l : List Lk} {s v c : Int} (h : WI l s [] v c) : v = s ∧ c = 0 := by
  generalize hR : ([] : List Int) = R at h
  cases h with
  | nil => exact ⟨rfl, rfl⟩
  | snoc _ _ _ _ => simp at hR
abbrev RowT := Int → Option (Int × Int)
def setF (f : RowT) (k : Int) (v : Int × Int) : RowT := fun j => if j = k then some v else f j
/-- One link of a row of the search. -/
def upR (l : List Lk) (prev cur : RowT) (i : Nat) : RowT :=
  match prev (gl l i).a with
  | none => cur
  | some p => match cur (gl l i).b with
    | none => setF cur (gl l i).b (wrap64 (p.1 + (gl l i).m), i)
    | some o => if wrap64 (p.1 + (gl l i).m) < o.1 then setF cur (gl l i).b (wrap64 (p.1 + (gl l i).m), i) else cur
def rowI (l : List Lk) (prev : RowT) : Nat → RowT
  | 0 => fun _ => none
  | i + 1 => upR l prev (rowI l prev i) i
def rowF (l : List Lk) (at_ : Int) : Nat → RowT
  | 0 => setF (fun _ => none) at_ (0, -1)
  | k + 1 => rowI l (rowF l at_ k) l.length
def linkAt (l : List Lk) (at_ : Int) (k : Nat) (v : Int) : Int := ((rowF l at_ k v).getD (0, 0)).2
def backF (l : List Lk) (at_ : Int) : Nat → Int → List Int → List Int
  | 0, _, acc => acc
  | k + 1, v, acc => backF l at_ k (gl l (linkAt l at_ (k + 1) v)).a (linkAt l at_ (k + 1) v :: acc)
def closedP (l : List Lk) (at_ : Int) (many : Nat) : Option (List Int) :=
  match rowF l at_ many at_ with
  | none => none
  | some e => if 0 ≤ e.1 then none else some (backF l at_ many at_ [])
def findA (l : List Lk) (many : Nat) : Nat → Nat → Option (List Int)
  | 0, _ => none
  | r + 1, a => match closedP l a many with
    | some p => some p
    | none => findA l many r (a + 1)
def findM (l : List Lk) (n : Nat) : Nat → Nat → Option (List Int)
  | 0, _ => none
  | r + 1, many => match findA l many n 0 with
    | some p => some p
    | none => findM l n r (many + 1)
def clashP (n : Int) (l : List Lk) : List Int × Int :=
  if checkL n l ≠ 0 then ([], checkL n l)
  else if (solutionL n.toNat l).2 then ([], 5)
  else match findM l n.toNat n.toNat 1 with
    | some p => (p, 0)
    | none => ([], 5)
section
variable {l : List Lk} {prev : RowT} {B : Int}
theorem rowI_spec (hB : ∀ v p, prev v = some p → -B ≤ p.1 ∧ p.1 ≤ B) (hBB : B ≤ 4611686018427387904) (hm : ∀ k : Nat, k < l.length → -17179869184 ≤ (gl l k).m ∧ (gl l k).m ≤ 17179869184) : ∀ i, i ≤ l.length →
    (∀ v q, rowI l prev i v = some q → ∃ j : Nat, q.2 = j ∧ j < i ∧ (gl l j).b = v ∧ ∃ p, prev (gl l j).a = some p ∧ q.1 = p.1 + (gl l j).m) ∧
    (∀ j : Nat, j < i → ∀ p, prev (gl l j).a = some p → ∃ q, rowI l prev i (gl l j).b = some q ∧ q.1 ≤ p.1 + (gl l j).m)
  | 0, _ => ⟨fun v q h => (by cases h), fun j hj => by omega⟩
  | i + 1, hi => by
    obtain ⟨h1, h2⟩ := rowI_spec hB hBB hm i (by omega)
    have hmi := hm i (by omega)
    have hup : ∀ v, rowI l prev (i + 1) v = upR l prev (rowI l prev i) i v := fun v => rfl
    cases hp : prev (gl l i).a with
    | none =>
      have he : ∀ v, rowI l prev (i + 1) v = rowI l prev i v := fun v => by rw [hup]; unfold upR; rw [hp]
      refine ⟨fun v q h => ?_, fun j hj p hpj => ?_⟩
      · rw [he] at h
        obtain ⟨j, q1, q2, q3⟩ := h1 v q h
        exact ⟨j, q1, by omega, q3⟩
      · rw [he]
        by_cases e : j = i
        · subst e; rw [hp] at hpj; cases hpj
        · exact h2 j (by omega) p hpj
    | some p0 =>
      have hb := hB _ _ hp
      have hw : wrap64 (p0.1 + (gl l i).m) = p0.1 + (gl l i).m := wrap_in (by omega)
      have hset : ∀ (hup2 : ∀ v, rowI l prev (i + 1) v = setF (rowI l prev i) (gl l i).b (p0.1 + (gl l i).m, (i : Int)) v) (hle : ∀ o, rowI l prev i (gl l i).b = some o → p0.1 + (gl l i).m ≤ o.1),
          (∀ v q, rowI l prev (i + 1) v = some q → ∃ j : Nat, q.2 = j ∧ j < i + 1 ∧ (gl l j).b = v ∧ ∃ p, prev (gl l j).a = some p ∧ q.1 = p.1 + (gl l j).m) ∧
          (∀ j : Nat, j < i + 1 → ∀ p, prev (gl l j).a = some p → ∃ q, rowI l prev (i + 1) (gl l j).b = some q ∧ q.1 ≤ p.1 + (gl l j).m) := by
        intro hup2 hle
        refine ⟨fun v q h => ?_, fun j hj p hpj => ?_⟩
        · rw [hup2] at h
          unfold setF at h
          by_cases e : v = (gl l i).b
          · rw [if_pos e] at h
            cases h
            exact ⟨i, rfl, by omega, e.symm, p0, hp, rfl⟩
          · rw [if_neg e] at h
            obtain ⟨j, q1, q2, q3⟩ := h1 v q h
            exact ⟨j, q1, by omega, q3⟩
        · rw [hup2]
          unfold setF
          by_cases e : (gl l j).b = (gl l i).b
          · rw [if_pos e]
            refine ⟨_, rfl, ?_⟩
            show p0.1 + (gl l i).m ≤ _
            by_cases e2 : j = i
            · subst e2
              rw [hp] at hpj
              cases hpj
              exact Int.le_refl _
            · obtain ⟨q, q1, q2⟩ := h2 j (by omega) p hpj
              rw [e] at q1
              have := hle q q1
              omega
          · rw [if_neg e]
            exact h2 j (by
              by_cases e2 : j = i
              · subst e2; exact absurd rfl e
              · omega) p hpj
      cases hc : rowI l prev i (gl l i).b with
      | none =>
        exact hset (fun v => by rw [hup]; unfold upR; rw [hp]; simp only [hc, hw]) (fun o ho => by rw [hc] at ho; cases ho)
      | some o =>
        by_cases hlt : p0.1 + (gl l i).m < o.1
        · exact hset (fun v => by rw [hup]; unfold upR; rw [hp]; simp only [hc, hw]; rw [if_pos hlt]) (fun o' ho => by rw [hc] at ho; cases ho; omega)
        · have he : ∀ v, rowI l prev (i + 1) v = rowI l prev i v := fun v => by rw [hup]; unfold upR; rw [hp]; simp only [hc, hw]; rw [if_neg hlt]
          refine ⟨fun v q h => ?_, fun j hj p hpj => ?_⟩
          · rw [he] at h
            obtain ⟨j, q1, q2, q3⟩ := h1 v q h
            exact ⟨j, q1, by omega, q3⟩
          · rw [he]
            by_cases e : j = i
            · subst e
              rw [hp] at hpj
              cases hpj
              exact ⟨o, hc, by omega⟩
            · exact h2 j (by omega) p hpj
end
theorem rowF_spec {l : List Lk} {s : Int} (hm : ∀ k : Nat, k < l.length → -17179869184 ≤ (gl l k).m ∧ (gl l k).m ≤ 17179869184) : ∀ k, k ≤ 60 →
    (∀ v q, rowF l s k v = some q → ∃ P, WI l s P v q.1 ∧ P.length = k ∧ ∀ acc, backF l s k v acc = P ++ acc) ∧
    (∀ P v c, WI l s P v c → P.length = k → ∃ q, rowF l s k v = some q ∧ q.1 ≤ c)
  | 0, _ => by
    refine ⟨fun v q h => ?_, fun P v c h hP => ?_⟩
    · unfold rowF setF at h
      by_cases e : v = s
      · rw [if_pos e] at h
        cases h
        subst e
        exact ⟨[], .nil, rfl, fun acc => rfl⟩
      · rw [if_neg e] at h; cases h
    · cases h with
      | nil => exact ⟨(0, -1), by unfold rowF setF; rw [if_pos rfl], Int.le_refl _⟩
      | snoc h1 h2 h3 h4 => simp at hP
  | k + 1, hk => by
    obtain ⟨h1, h2⟩ := rowF_spec (s := s) hm k (by omega)
    have hB : ∀ v p, rowF l s k v = some p → -(1030792151040 : Int) ≤ p.1 ∧ p.1 ≤ 1030792151040 := by
      intro v p hp
      obtain ⟨P, q1, q2, _⟩ := h1 v p hp
      have := q1.bound hm
      have h3 : (P.length : Int) * 17179869184 ≤ 60 * 17179869184 := Int.mul_le_mul_of_nonneg_right (by omega) (by omega)
      omega
    obtain ⟨g1, g2⟩ := rowI_spec hB (by omega) hm l.length (Nat.le_refl _)
    refine ⟨fun v q h => ?_, fun P v c h hP => ?_⟩
    · obtain ⟨j, q1, q2, q3, p, q4, q5⟩ := g1 v q h
      obtain ⟨P, r1, r2, r3⟩ := h1 _ p q4
      have hl : linkAt l s (k + 1) v = j := by unfold linkAt; rw [h]; exact q1
      refine ⟨P ++ [(j : Int)], ?_, by simp [r2], fun acc => ?_⟩
      · rw [q5, ← q3]
        exact .snoc r1 (by omega) (by omega) rfl
      · show backF l s k (gl l (linkAt l s (k + 1) v)).a (linkAt l s (k + 1) v :: acc) = _
        rw [hl, r3]
        simp
    · cases h with
      | nil => simp at hP
      | snoc w1 w2 w3 w4 =>
        rename_i P0 v0 c0 i
        obtain ⟨q, q1, q2⟩ := h2 P0 v0 c0 w1 (by simpa using hP)
        rw [← w4] at q1
        have e : ((i.toNat : Nat) : Int) = i := by omega
        rw [← e] at q1 ⊢
        obtain ⟨q', r1, r2⟩ := g2 i.toNat (by omega) q q1
        exact ⟨q', r1, by omega⟩
theorem leads_wi {l : List Lk} {s : Int} (hm : ∀ k : Nat, k < l.length → -17179869184 ≤ (gl l k).m ∧ (gl l k).m ≤ 17179869184) (hl : l.length ≤ 1000) (p : List Int) (hp : p.length ≤ 60) : ∀ j, j ≤ p.length → ∀ t c, ((p.take j).foldlM (leadStep l) (s, (0 : Int)) = some (t, c) ↔ WI l s (p.take j) t c) := by
  intro j
  induction j with
  | zero =>
    intro _ t c
    simp only [List.take_zero, List.foldlM_nil]
    constructor
    · intro h
      cases h
      exact .nil
    · intro h
      obtain ⟨rfl, rfl⟩ := h.nil_inv
      rfl
  | succ j ih =>
    intro hj t c
    have hjl : j < p.length := by omega
    rw [foldM_gi _ _ _ _ hjl, take_gi p j hjl]
    have hstep : ∀ u d i, WI l s (p.take j) u d → (leadStep l (u, d) i = some (t, c) ↔ (0 ≤ i ∧ i < l.length ∧ (gl l i).a = u ∧ t = (gl l i).b ∧ c = d + (gl l i).m)) := by
      intro u d i hw
      have hb := hw.bound hm
      have h3 : ((p.take j).length : Int) * 17179869184 ≤ 60 * 17179869184 := Int.mul_le_mul_of_nonneg_right (by simp; omega) (by omega)
      unfold leadStep withinB
      by_cases hi : 0 ≤ i ∧ i < l.length
      · have hmi := hm i.toNat (by omega)
        rw [show ((i.toNat : Nat) : Int) = i by omega] at hmi
        have hw2 : wrap64 (d + (gl l i).m) = d + (gl l i).m := wrap_in (by omega)
        by_cases ha : (gl l i).a = u
        · rw [if_pos (by simp [ha]; omega), hw2]
          simp only [Option.some.injEq, Prod.mk.injEq]
          exact ⟨fun h => ⟨hi.1, hi.2, ha, h.1.symm, h.2.symm⟩, fun h => ⟨h.2.2.2.1.symm, h.2.2.2.2.symm⟩⟩
        · rw [if_neg (by simp [ha])]
          exact ⟨fun h => (by cases h), fun h => absurd h.2.2.1 ha⟩
      · rw [if_neg (by simp; omega)]
        exact ⟨fun h => (by cases h), fun h => absurd ⟨h.1, h.2.1⟩ hi⟩
    constructor
    · intro h
      obtain ⟨⟨u, d⟩, q1, q2⟩ := Option.bind_eq_some_iff.1 h
      have hw := (ih (by omega) u d).1 q1
      obtain ⟨r1, r2, r3, r4, r5⟩ := (hstep u d _ hw).1 q2
      rw [r4, r5]
      exact .snoc hw r1 r2 r3
    · intro h
      obtain ⟨u, c1, c2, q1, q2, q3⟩ := h.split (p.take j) [gi p j] rfl
      have e : c2 = (gl l (gi p j)).m ∧ 0 ≤ gi p j ∧ gi p j < l.length ∧ (gl l (gi p j)).a = u ∧ t = (gl l (gi p j)).b := by
        generalize hR : [gi p j] = R at q2
        cases q2 with
        | nil => cases hR
        | snoc w1 w2 w3 w4 =>
          rename_i P0 v0 c0 i
          cases P0 with
          | nil =>
            simp at hR
            subst hR
            obtain ⟨rfl, rfl⟩ := w1.nil_inv
            exact ⟨by omega, w2, w3, w4, rfl⟩
          | cons _ _ => simp at hR
      exact Option.bind_eq_some_iff.2 ⟨(u, c1), (ih (by omega) u c1).2 q1, (hstep u c1 _ q1).2 ⟨e.2.1, e.2.2.1, e.2.2.2.1, e.2.2.2.2, by omega⟩⟩
theorem leads_iff {l : List Lk} {s : Int} (hm : ∀ k : Nat, k < l.length → -17179869184 ≤ (gl l k).m ∧ (gl l k).m ≤ 17179869184) (hl : l.length ≤ 1000) {p : List Int} (hp : p.length ≤ 60) (t c : Int) : leadsO l s p = some (t, c) ↔ WI l s p t c := by
  have := leads_wi (s := s) hm hl p hp p.length (Nat.le_refl _) t c
  rw [List.take_length] at this
  exact this
theorem WI.mem {l : List Lk} {s : Int} {P : List Int} {v c : Int} (h : WI l s P v c) : ∀ i ∈ P, 0 ≤ i ∧ i < l.length := by
  induction h with
  | nil => intro i hi; simp at hi
  | snoc h1 h2 h3 h4 ih =>
    intro i hi
    rcases List.mem_append.1 hi with hi | hi
    · exact ih i hi
    · simp at hi; subst hi; exact ⟨h2, h3⟩
theorem WI.one {l : List Lk} {s i u c : Int} (h : WI l s [i] u c) : (gl l i).a = s := by
  generalize hR : [i] = R at h
  cases h with
  | nil => cases hR
  | snoc w1 w2 w3 w4 =>
    rename_i P0 v0 c0 i'
    cases P0 with
    | nil =>
      simp at hR
      subst hR
      obtain ⟨rfl, rfl⟩ := w1.nil_inv
      exact w4
    | cons _ _ => simp at hR
theorem WI.head {l : List Lk} {s : Int} {P : List Int} {v c : Int} (h : WI l s P v c) (h0 : 0 < P.length) : (gl l (gi P 0)).a = s := by
  cases P with
  | nil => simp at h0
  | cons i Q =>
    obtain ⟨u, c1, c2, q1, _, _⟩ := h.split [i] Q rfl
    exact q1.one
section
variable {n : Nat} {l : List Lk} (hm : ∀ k : Nat, k < l.length → -17179869184 ≤ (gl l k).m ∧ (gl l k).m ≤ 17179869184)
include hm
theorem closed_some {b : Int} {m : Nat} (h60 : m ≤ 60) {p : List Int} (h : closedP l b m = some p) : ∃ e, WI l b p b e ∧ e < 0 ∧ p.length = m := by
  unfold closedP at h
  split at h
  · cases h
  · rename_i e he
    split at h
    · cases h
    · cases h
      obtain ⟨P, q1, q2, q3⟩ := (rowF_spec hm m h60).1 _ _ he
      rw [q3, List.append_nil]
      exact ⟨e.1, q1, by omega, q2⟩
theorem closed_none {b : Int} {m : Nat} (h60 : m ≤ 60) (h : closedP l b m = none) {P : List Int} {c : Int} (hw : WI l b P b c) (hP : P.length = m) : 0 ≤ c := by
  obtain ⟨q, q1, q2⟩ := (rowF_spec hm m h60).2 P b c hw hP
  unfold closedP at h
  rw [q1] at h
  simp only at h
  split at h
  · omega
  · cases h
end
theorem findA_some {l : List Lk} {many : Nat} : ∀ {r a : Nat} {p : List Int}, findA l many r a = some p → ∃ b, a ≤ b ∧ b < a + r ∧ closedP l (b : Nat) many = some p
  | 0, a, p, h => by cases h
  | r + 1, a, p, h => by
    unfold findA at h
    split at h
    · rename_i q hq
      cases h
      exact ⟨a, Nat.le_refl _, by omega, hq⟩
    · obtain ⟨b, h1, h2, h3⟩ := findA_some h
      exact ⟨b, by omega, by omega, h3⟩
theorem findA_none {l : List Lk} {many : Nat} : ∀ {r a : Nat}, findA l many r a = none → ∀ b : Nat, a ≤ b → b < a + r → closedP l b many = none
  | 0, a, h, b, h1, h2 => by omega
  | r + 1, a, h, b, h1, h2 => by
    unfold findA at h
    split at h
    · cases h
    · rename_i hq
      by_cases e : b = a
      · rw [e]; exact hq
      · exact findA_none h b (by omega) (by omega)
theorem findM_some {l : List Lk} {n : Nat} : ∀ {r m : Nat} {p : List Int}, findM l n r m = some p → ∃ m' b, m ≤ m' ∧ m' < m + r ∧ b < n ∧ closedP l (b : Nat) m' = some p ∧ ∀ k b' : Nat, m ≤ k → k < m' → b' < n → closedP l b' k = none
  | 0, m, p, h => by cases h
  | r + 1, m, p, h => by
    unfold findM at h
    split at h
    · rename_i q hq
      cases h
      obtain ⟨b, h1, h2, h3⟩ := findA_some hq
      exact ⟨m, b, Nat.le_refl _, by omega, by omega, h3, fun k b' q1 q2 => by omega⟩
    · rename_i hq
      obtain ⟨m', b, h1, h2, h3, h4, h5⟩ := findM_some h
      refine ⟨m', b, by omega, by omega, h3, h4, fun k b' q1 q2 q3 => ?_⟩
      by_cases e : k = m
      · subst e; exact findA_none hq b' (by omega) (by omega)
      · exact h5 k b' (by omega) q2 q3
theorem findM_none {l : List Lk} {n : Nat} : ∀ {r m : Nat}, findM l n r m = none → ∀ k b : Nat, m ≤ k → k < m + r → b < n → closedP l b k = none
  | 0, m, h, k, b, h1, h2, _ => by omega
  | r + 1, m, h, k, b, h1, h2, h3 => by
    unfold findM at h
    split at h
    · cases h
    · rename_i hq
      by_cases e : k = m
      · subst e; exact findA_none hq b (by omega) (by omega)
      · exact findM_none h k b (by omega) (by omega) h3
/-- What Clash returns where there is no solution. -/
theorem clash_law {n : Int} {l : List Lk} (hck : checkL n l = 0) (hno : (solutionL n.toNat l).2 = false) : ∃ p, clashP n l = (p, 0) ∧ findM l n.toNat n.toNat 1 = some p ∧ p.length ≤ 50 ∧ clashI n l p = 0 ∧ ∀ q, clashI n l q = 0 → p.length ≤ q.length := by
  have hok0 := check_ok hck
  have hn1 := hok0.n1
  have hn2 := hok0.n2
  obtain ⟨N, rfl⟩ : ∃ N : Nat, n = N := ⟨n.toNat, by omega⟩
  rw [Int.toNat_natCast] at hno ⊢
  have hm : ∀ k : Nat, k < l.length → -17179869184 ≤ (gl l k).m ∧ (gl l k).m ≤ 17179869184 := fun k hk => (hok0.lk (gl l k) (gl_mem (l := l) (i := (k : Int)) (by omega) (by omega))).2.2
  have hin : ∀ k : Nat, k < l.length → InR N (gl l k) := fun k hk => (hok0.lk (gl l k) (gl_mem (l := l) (i := (k : Int)) (by omega) (by omega))).1
  have hl1 := hok0.l1
  obtain ⟨s, P, c, s0, s1, hw, hc, hP1, hPn⟩ := neg_walk hok0 hno
  have hsome : ∃ p, findM l N N 1 = some p := by
    cases h : findM l N N 1 with
    | some p => exact ⟨p, rfl⟩
    | none =>
      have h1 := findM_none h P.length s.toNat hP1 (by omega) (by omega)
      rw [show ((s.toNat : Nat) : Int) = s by omega] at h1
      have := closed_none hm (by omega) h1 hw rfl
      omega
  obtain ⟨p, hp⟩ := hsome
  obtain ⟨m, b, h1, h2, h3, h4, h5⟩ := findM_some hp
  obtain ⟨e, q1, q2, q3⟩ := closed_some hm (by omega) h4
  refine ⟨p, ?_, hp, by omega, ?_, fun q hq => ?_⟩
  · unfold clashP
    rw [if_neg (by simpa using hck), Int.toNat_natCast, hno, hp]
    rfl
  · unfold clashI
    rw [if_neg (by simpa using hck), if_neg (by omega)]
    have hbad : p.any (badIdx l.length) = false := by
      rw [List.any_eq_false]
      intro i hi
      have := q1.mem i hi
      unfold badIdx withinB
      simp
      omega
    rw [hbad, if_neg (by simp), if_neg (by omega), q1.head (by omega), (leads_iff hm (by omega) (by omega) _ _).2 q1]
    exact if_pos ⟨rfl, q2⟩
  · unfold clashI at hq
    rw [if_neg (by simpa using hck)] at hq
    by_cases c1 : 50 < q.length
    · omega
    · rw [if_neg c1] at hq
      by_cases c2 : q.any (badIdx l.length) = true
      · rw [if_pos c2] at hq; omega
      · rw [if_neg c2] at hq
        by_cases c3 : q.length = 0
        · rw [if_pos c3] at hq; omega
        · rw [if_neg c3] at hq
          cases hle : leadsO l (gl l (gi q 0)).a q with
          | none => rw [hle] at hq; simp at hq
          | some tc =>
            obtain ⟨t, d⟩ := tc
            rw [hle] at hq
            simp only at hq
            split at hq
            · rename_i hh
              obtain ⟨rfl, hd⟩ := hh
              have hw2 := (leads_iff hm (by omega) (by omega) _ _).1 hle
              have hg := hw2.mem (gi q 0) (gi_mem (by omega) (by omega))
              have hr := hin (gi q 0).toNat (by omega)
              rw [show (((gi q 0).toNat : Nat) : Int) = gi q 0 by omega] at hr
              refine Classical.byContradiction fun hlt => ?_
              have h6 := h5 q.length (gl l (gi q 0)).a.toNat (by omega) (by omega) (by have := hr.1; have := hr.2.1; omega)
              rw [show (((gl l (gi q 0)).a.toNat : Nat) : Int) = (gl l (gi q 0)).a by have := hr.1; omega] at h6
              have := closed_none hm (by omega) h6 hw2 rfl
              omega
            · omega
/-- A solution lets no closed walk be accepted. -/
theorem clash_not {n : Int} {l : List Lk} (hck : checkL n l = 0) (hyes : (solutionL n.toNat l).2 = true) (q : List Int) : clashI n l q ≠ 0 := by
  have hok0 := check_ok hck
  have hn1 := hok0.n1
  obtain ⟨N, rfl⟩ : ∃ N : Nat, n = N := ⟨n.toNat, by omega⟩
  rw [Int.toNat_natCast] at hyes
  have hpot := solution_pot hok0 hyes
  have hm : ∀ k : Nat, k < l.length → -17179869184 ≤ (gl l k).m ∧ (gl l k).m ≤ 17179869184 := fun k hk => (hok0.lk (gl l k) (gl_mem (l := l) (i := (k : Int)) (by omega) (by omega))).2.2
  have hl1 := hok0.l1
  intro hq
  unfold clashI at hq
  rw [if_neg (by simpa using hck)] at hq
  by_cases c1 : 50 < q.length
  · rw [if_pos c1] at hq; omega
  · rw [if_neg c1] at hq
    by_cases c2 : q.any (badIdx l.length) = true
    · rw [if_pos c2] at hq; omega
    · rw [if_neg c2] at hq
      by_cases c3 : q.length = 0
      · rw [if_pos c3] at hq; omega
      · rw [if_neg c3] at hq
        cases hle : leadsO l (gl l (gi q 0)).a q with
        | none => rw [hle] at hq; simp at hq
        | some tc =>
          obtain ⟨t, d⟩ := tc
          rw [hle] at hq
          simp only at hq
          split at hq
          · rename_i hh
            obtain ⟨rfl, hd⟩ := hh
            have hw2 := (leads_iff hm (by omega) (by omega) _ _).1 hle
            have := hw2.le (x := fun v => gi (solutionL N l).1 v) (fun k hk => hpot.fit _ (gl_mem (by omega) (by omega)))
            omega
          · omega
end Go.Proofs.Ytmhiiomejopaoaa
