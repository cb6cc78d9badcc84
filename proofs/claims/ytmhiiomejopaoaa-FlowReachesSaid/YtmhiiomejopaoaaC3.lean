/- Flows on a part of the links; what Tight, Needed and Core find; the plain law of FlowSlack. -/
import Derived.Test.YtmhiiomejopaoaaE1
namespace Go.Proofs.Ytmhiiomejopaoaa
set_option linter.all false
open Go.RowKit
set_option maxRecDepth 100000

/-- A flow that carries weights. -/
structure Fl (n : Nat) (l : List Lk) (w u : List Int) : Prop where
  len : u.length = l.length
  u0 : ∀ k : Nat, k < l.length → 0 ≤ gi u k
  cons : ∀ v : Nat, v < n → net l u v = gi w v
def cst (l : List Lk) (u : List Int) : Int := sumN (fun k => gi u k * (gl l k).m) l.length
def selN (S u : List Int) : Nat → List Int
  | 0 => []
  | k + 1 => if S.contains (k : Int) then selN S u k else selN S u k ++ [gi u k]
def pos (S : List Int) (j : Nat) : Nat := (idxN S j).length
theorem keptN_not (S : List Int) (l : List Lk) (k : Nat) : keptN l (notIn S) (k + 1) = if S.contains (k : Int) then keptN l (notIn S) k else keptN l (notIn S) k ++ [gl l k] := by
  rw [keptN, show notIn S k = !S.contains (k : Int) from rfl]
  cases S.contains (k : Int) <;> rfl
theorem selN_len (S u : List Int) (l : List Lk) : ∀ k, (selN S u k).length = (keptN l (notIn S) k).length
  | 0 => rfl
  | k + 1 => by
    rw [keptN_not]
    unfold selN
    split
    · exact selN_len S u l k
    · simp [selN_len S u l k]
theorem selN_pos (S u : List Int) : ∀ k, (selN S u k).length = (idxN S k).length
  | 0 => rfl
  | k + 1 => by
    unfold selN idxN
    split
    · exact selN_pos S u k
    · simp [selN_pos S u k]
theorem kept_pos (S : List Int) (l : List Lk) (k : Nat) : (keptN l (notIn S) k).length = (idxN S k).length := by rw [← selN_len S [] l k, selN_pos]
theorem gl_app_last (l : List Lk) (x : Lk) (i : Nat) (h : i = l.length) : gl (l ++ [x]) i = x := by
  subst h
  simp [gl, List.getD_eq_getElem?_getD]
theorem sel_sum (S u : List Int) (l : List Lk) (f : Lk → Int) : ∀ k, sumN (fun i => gi (selN S u k) i * f (gl (keptN l (notIn S) k) i)) (keptN l (notIn S) k).length = sumN (fun j => if S.contains (j : Int) then 0 else gi u j * f (gl l j)) k
  | 0 => rfl
  | k + 1 => by
    have ih := sel_sum S u l f k
    rw [keptN_not]
    unfold selN
    by_cases hc : S.contains (k : Int) = true
    · simp only [hc, if_true]
      rw [ih]
      show _ = sumN _ k + (if S.contains (k : Int) = true then 0 else _)
      rw [if_pos hc]; omega
    · have hc' : S.contains (k : Int) = false := by simpa using hc
      simp only [hc', Bool.false_eq_true, if_false]
      rw [List.length_append, List.length_singleton]
      show sumN _ (keptN l (notIn S) k).length + _ = sumN _ k + (if S.contains (k : Int) = true then 0 else _)
      rw [if_neg hc, ← ih]
      have hl := selN_len S u l k
      rw [sumN_congr (h := fun i => gi (selN S u k) i * f (gl (keptN l (notIn S) k) i)) _ (fun i hi => by
        rw [gi_append_left _ _ _ (by omega), gl_app_left _ _ _ hi])]
      have e1 : gi (selN S u k ++ [gi u k]) ((keptN l (notIn S) k).length : Nat) = gi u k := gi_append_last _ _ _ (by omega)
      have e2 : gl (keptN l (notIn S) k ++ [gl l k]) ((keptN l (notIn S) k).length : Nat) = gl l k := gl_app_last _ _ _ rfl
      dsimp only
      rw [e1, e2]
theorem selN_nonneg (S u : List Int) : ∀ k, (∀ j : Nat, j < k → 0 ≤ gi u j) → ∀ i : Nat, i < (selN S u k).length → 0 ≤ gi (selN S u k) i
  | 0, _, i, h => by simp [selN] at h
  | k + 1, h, i, hi => by
    unfold selN at hi ⊢
    split at hi
    · rename_i hc
      rw [if_pos hc]
      exact selN_nonneg S u k (fun j hj => h j (by omega)) i hi
    · rename_i hc
      rw [if_neg hc]
      simp at hi
      by_cases e : i = (selN S u k).length
      · rw [gi_append_last _ _ _ e]; exact h k (by omega)
      · rw [gi_append_left _ _ _ (by omega)]
        exact selN_nonneg S u k (fun j hj => h j (by omega)) i (by omega)
theorem sel_net {S u : List Int} {l : List Lk} (h0 : ∀ j : Nat, j < l.length → S.contains (j : Int) = true → gi u j = 0) (v : Int) : net (keptL l (notIn S)) (selN S u l.length) v = net l u v := by
  unfold net netP keptL
  rw [sel_sum S u l (fun k => ind k.b v - ind k.a v) l.length]
  refine sumN_congr _ fun j hj => ?_
  split
  · rename_i hc; rw [h0 j hj hc, Int.zero_mul]
  · rfl
theorem sel_cst {S u : List Int} {l : List Lk} (h0 : ∀ j : Nat, j < l.length → S.contains (j : Int) = true → gi u j = 0) : cst (keptL l (notIn S)) (selN S u l.length) = cst l u := by
  unfold cst keptL
  rw [sel_sum S u l (fun k => k.m) l.length]
  refine sumN_congr _ fun j hj => ?_
  split
  · rename_i hc; rw [h0 j hj hc, Int.zero_mul]
  · rfl
theorem sel_flow {n : Nat} {S w u : List Int} {l : List Lk} (h : Fl n l w u) (h0 : ∀ j : Nat, j < l.length → S.contains (j : Int) = true → gi u j = 0) : Fl n (keptL l (notIn S)) w (selN S u l.length) :=
  ⟨selN_len S u l _, fun k hk => selN_nonneg S u l.length h.u0 k (by rw [selN_len S u l]; exact hk), fun v hv => by rw [sel_net h0]; exact h.cons v hv⟩
/-! Spreading out. -/
theorem idxN_at (S : List Int) : ∀ (m i : Nat), i < (idxN S m).length → ∃ j : Nat, j < m ∧ gi (idxN S m) i = j ∧ S.contains (j : Int) = false ∧ pos S j = i
  | 0, i, h => by simp [idxN] at h
  | m + 1, i, h => by
    unfold idxN at h ⊢
    by_cases hc : S.contains (m : Int) = true
    · rw [if_pos hc] at h ⊢
      obtain ⟨j, h1, h2, h3, h4⟩ := idxN_at S m i h
      exact ⟨j, by omega, h2, h3, h4⟩
    · rw [if_neg hc] at h ⊢
      simp at h
      by_cases e : i = (idxN S m).length
      · exact ⟨m, by omega, gi_append_last _ _ _ e, by simpa using hc, e.symm⟩
      · obtain ⟨j, h1, h2, h3, h4⟩ := idxN_at S m i (by omega)
        exact ⟨j, by omega, by rw [gi_append_left _ _ _ (by omega)]; exact h2, h3, h4⟩
theorem pos_at (S : List Int) : ∀ (m j : Nat), j < m → S.contains (j : Int) = false → pos S j < (idxN S m).length ∧ gi (idxN S m) (pos S j) = j
  | 0, j, h, _ => absurd h (by omega)
  | m + 1, j, h, hj => by
    unfold idxN
    by_cases e : j = m
    · subst e
      rw [if_neg (by rw [hj]; simp)]
      exact ⟨by simp [pos], gi_append_last _ _ _ rfl⟩
    · obtain ⟨h1, h2⟩ := pos_at S m j (by omega) hj
      split
      · exact ⟨h1, h2⟩
      · exact ⟨by simp; omega, by rw [gi_append_left _ _ _ h1]; exact h2⟩
theorem scat_gi (S u1 a : List Int) (m : Nat) (ha : m ≤ a.length) : ∀ k, k ≤ (idxN S m).length → ∀ j : Nat, gi (scatN (idxN S m) u1 k a) j = if S.contains (j : Int) = false ∧ j < m ∧ pos S j < k then gi u1 (pos S j) else gi a j
  | 0, _, j => by rw [if_neg (by omega)]; rfl
  | k + 1, hk, j => by
    obtain ⟨jk, h1, h2, h3, h4⟩ := idxN_at S m k (by omega)
    have ih := scat_gi S u1 a m ha k (by omega) j
    show gi (si (scatN (idxN S m) u1 k a) (gi (idxN S m) k) (gi u1 k)) j = _
    rw [h2, gi_si (by omega) (by rw [scatN_length]; omega), ih]
    by_cases e : j = jk
    · subst e
      rw [if_pos rfl, if_pos ⟨h3, h1, by omega⟩, h4]
    · rw [if_neg (by omega)]
      by_cases hc : S.contains (j : Int) = false ∧ j < m ∧ pos S j < k
      · rw [if_pos hc, if_pos ⟨hc.1, hc.2.1, by omega⟩]
      · rw [if_neg hc, if_neg]
        rintro ⟨c1, c2, c3⟩
        by_cases e2 : pos S j = k
        · have := (pos_at S m j c2 c1).2
          rw [e2, h2] at this
          omega
        · exact hc ⟨c1, c2, by omega⟩
theorem sel_gi (S u : List Int) : ∀ (m i : Nat), i < (idxN S m).length → gi (selN S u m) i = gi u (gi (idxN S m) i)
  | 0, i, h => by simp [idxN] at h
  | m + 1, i, h => by
    unfold idxN selN at *
    by_cases hc : S.contains (m : Int) = true
    · rw [if_pos hc] at h ⊢
      rw [if_pos hc]
      exact sel_gi S u m i h
    · rw [if_neg hc] at h ⊢
      rw [if_neg hc]
      simp at h
      have hl := selN_pos S u m
      by_cases e : i = (idxN S m).length
      · rw [gi_append_last _ _ _ (by omega), gi_append_last _ _ _ e]
      · rw [gi_append_left _ _ _ (by omega), gi_append_left _ _ _ (by omega)]
        exact sel_gi S u m i (by omega)
def spread (S : List Int) (l : List Lk) (u1 : List Int) : List Int := scatN (idxN S l.length) u1 (idxN S l.length).length (List.replicate l.length 0)
theorem spread_gi (S u1 : List Int) (l : List Lk) (j : Nat) : gi (spread S l u1) j = if S.contains (j : Int) = false ∧ j < l.length then gi u1 (pos S j) else 0 := by
  unfold spread
  rw [scat_gi S u1 _ l.length (by simp) _ (Nat.le_refl _) j, gi_rep0]
  by_cases h : S.contains (j : Int) = false ∧ j < l.length
  · rw [if_pos ⟨h.1, h.2, (pos_at S l.length j h.2 h.1).1⟩, if_pos h]
  · rw [if_neg h, if_neg (fun h2 => h ⟨h2.1, h2.2.1⟩)]
theorem spread_sel {S u1 : List Int} {l : List Lk} (h : u1.length = (keptL l (notIn S)).length) : selN S (spread S l u1) l.length = u1 := by
  have hk : (keptL l (notIn S)).length = (idxN S l.length).length := kept_pos S l l.length
  apply List.ext_getElem?
  intro i
  by_cases hi : i < (idxN S l.length).length
  · rw [gi_get (l := selN S (spread S l u1) l.length) (by rw [selN_pos]; exact hi), gi_get (l := u1) (by omega), sel_gi S _ l.length i hi]
    obtain ⟨j, h1, h2, h3, h4⟩ := idxN_at S l.length i hi
    rw [h2, spread_gi, if_pos ⟨h3, h1⟩, h4]
  · rw [List.getElem?_eq_none (by rw [selN_pos]; omega), List.getElem?_eq_none (by omega)]
theorem spread_zero (S u1 : List Int) (l : List Lk) : ∀ j : Nat, j < l.length → S.contains (j : Int) = true → gi (spread S l u1) j = 0 := by
  intro j _ hc
  rw [spread_gi, if_neg (by rw [hc]; simp)]
theorem spread_flow {n : Nat} {S w u1 : List Int} {l : List Lk} (h : Fl n (keptL l (notIn S)) w u1) : Fl n l w (spread S l u1) ∧ cst l (spread S l u1) = cst (keptL l (notIn S)) u1 := by
  have hz := spread_zero S u1 l
  have hs := spread_sel h.len
  refine ⟨⟨by unfold spread; rw [scatN_length]; simp, fun k hk => ?_, fun v hv => ?_⟩, ?_⟩
  · rw [spread_gi]
    split
    · rename_i hc
      refine h.u0 _ ?_
      have := (pos_at S l.length k hk hc.1).1
      unfold keptL
      rw [kept_pos]; exact this
    · omega
  · rw [← sel_net hz, hs]; exact h.cons v hv
  · rw [← sel_cst hz, hs]
/-! What lacks finds. -/
theorem kept_ok {n : Nat} {S : List Int} {l : List Lk} (hok : NetOk n l) : NetOk n (keptL l (notIn S)) :=
  ⟨hok.n1, hok.n2, Nat.le_trans (keptL_len l _) hok.l1, fun k hk => hok.lk k (keptL_mem hk)⟩
/-- What is known of a net whose greatest weighted sum is a number. -/
structure Opt (n : Nat) (l : List Lk) (w : List Int) (sum : Int) : Prop where
  ok : NetOk n l
  n12 : n ≤ 12
  l60 : l.length ≤ 60
  wl : w.length = n
  wb : ∀ i : Nat, i < n → -100000 ≤ gi w i ∧ gi w i ≤ 100000
  ws : weightsB n w = true
  sol : (solutionL n l).2 = true
  min_ : ∀ u, Fl n l w u → sum ≤ cst l u
theorem best_fl {n : Nat} {l : List Lk} {w u x : List Int} (hS : NetS n l) (hl : l.length ≤ 60) (hw : w.length = n) (hwb : ∀ i : Nat, i < n → -100000 ≤ gi w i ∧ gi w i ≤ 100000) (hb : Best n l w u x) : Fl n l w u ∧ costI l u = cst l u ∧ ∀ u', Fl n l w u' → cst l u ≤ cst l u' := by
  have hlk : ∀ k : Nat, k < l.length → 0 ≤ (gl l k).a ∧ (gl l k).a < n ∧ 0 ≤ (gl l k).b ∧ (gl l k).b < n := fun k hk => by have := hS.lk k hk; omega
  obtain ⟨f1, f2⟩ := best_flow hS hl hw hwb hb
  have hF := flow_at hS hw hwb f1 f2
  refine ⟨⟨hF.len, hF.u0, hF.cons⟩, hF.cost, fun u' h' => ?_⟩
  have hst := strong hlk (x := fun v => gi x v) (fun k hk h => by
    have h1 := hb.tight k hk (by have := hb.u0 k; omega)
    unfold sl at h1
    show gi x (gl l k).b = gi x (gl l k).a + (gl l k).m
    omega) hF.cons
  unfold cst
  rw [← hst]
  refine weak hlk (x := fun v => gi x v) (fun k hk => ?_) h'.u0 h'.cons
  have := hb.s0 k hk
  unfold sl at this
  show gi x (gl l k).b ≤ gi x (gl l k).a + (gl l k).m
  omega
theorem lacks_spec {n : Nat} {l : List Lk} {w : List Int} {sum : Int} (h : Opt n l w sum) (S : List Int) : ∃ r, bestP 2000000 n (keptL l (notIn S)) w = some r ∧
    (((lacksR l sum S r).2 = true ∧ Fl n l w (lacksR l sum S r).1 ∧ cst l (lacksR l sum S r).1 = sum ∧ ∀ j : Nat, j < l.length → S.contains (j : Int) = true → gi (lacksR l sum S r).1 j = 0) ∨
     ((lacksR l sum S r).2 = false ∧ ∀ u, Fl n l w u → (∀ j : Nat, j < l.length → S.contains (j : Int) = true → gi u j = 0) → cst l u ≠ sum)) := by
  have hok := kept_ok (S := S) h.ok
  have hS := netOk_lk hok h.n12
  have hlk : ∀ k : Nat, k < (keptL l (notIn S)).length → 0 ≤ (gl (keptL l (notIn S)) k).a ∧ (gl (keptL l (notIn S)) k).a < n ∧ 0 ≤ (gl (keptL l (notIn S)) k).b ∧ (gl (keptL l (notIn S)) k).b < n := fun k hk => by have := hS.lk k hk; omega
  have hl : (keptL l (notIn S)).length ≤ 60 := Nat.le_trans (keptL_len l _) h.l60
  have ha : askedI n (keptL l (notIn S)) w = 0 := asked_of (ok_check hok) h.ws
  obtain ⟨r, hr, hc⟩ := best_facts ha h.n12
  refine ⟨r, hr, ?_⟩
  have hpot := solution_pot h.ok h.sol
  have hsol : (solutionL n (keptL l (notIn S))).2 = true := sol_any hok (x := fun v => gi (solutionL n l).1 v) fun k hk => hpot.fit k (keptL_mem hk)
  rcases hc with ⟨rfl, h1⟩ | ⟨rfl, _, h2⟩ | ⟨u1, x, rfl, _, h2⟩
  · rw [hsol] at h1; cases h1
  · right
    refine ⟨by unfold lacksR; rw [if_neg (by simp)], fun u hu h0 _ => ?_⟩
    have := sel_flow hu h0
    exact cut_none hlk h2 this.u0 this.cons
  · obtain ⟨b1, b2, b3⟩ := best_fl hS hl h.wl h.wb h2
    obtain ⟨s1, s2⟩ := spread_flow b1
    have hge := h.min_ _ s1
    by_cases he : costI (keptL l (notIn S)) u1 = sum
    · left
      have e : lacksR l sum S (u1, 0) = (spread S l u1, true) := by unfold lacksR; rw [if_pos ⟨rfl, he⟩]; rfl
      rw [e]
      exact ⟨rfl, s1, by rw [s2, ← b2]; exact he, spread_zero S u1 l⟩
    · right
      refine ⟨by unfold lacksR; rw [if_neg (fun hh => he hh.2)], fun u hu h0 hcs => ?_⟩
      have h3 := b3 _ (sel_flow hu h0)
      rw [sel_cst h0, hcs] at h3
      rw [s2] at hge
      rw [b2] at he
      omega

theorem opt_of {n : Nat} {l : List Lk} {w u x : List Int} (ha : askedI n l w = 0) (hn : n ≤ 12) (hl : l.length ≤ 60) (hs : (solutionL n l).2 = true) (hb : Best n l w u x) : Opt n l w (costI l u) ∧ Fl n l w u ∧ cst l u = costI l u := by
  obtain ⟨hok, hw, hwb, _⟩ := asked_facts ha
  have hS := netOk_lk hok hn
  obtain ⟨b1, b2, b3⟩ := best_fl hS hl hw hwb hb
  exact ⟨⟨hok, hn, hl, hw, hwb, (asked_ok ha).2, hs, fun u' h' => by rw [b2]; exact b3 u' h'⟩, b1, b2.symm⟩
/-- No flow without some links costs as little. -/
def None_ (n : Nat) (l : List Lk) (w : List Int) (sum : Int) (P : Nat → Prop) : Prop := ∀ u, Fl n l w u → (∀ j : Nat, j < l.length → P j → gi u j = 0) → cst l u ≠ sum
theorem putS_new {g : List Int} {k : Int} (h : g.contains k = false) : putS g k = g ++ [k] := by unfold putS; rw [if_neg (by rw [h]; simp)]
theorem contains_app (g : List Int) (k j : Int) : (g ++ [k]).contains j = (g.contains j || j == k) := by
  rw [Bool.eq_iff_iff]
  simp
theorem core_spec {n : Nat} {l : List Lk} {w : List Int} {sum : Int} (h : Opt n l w sum) : ∀ (k : Nat) (u g : List Int), k ≤ l.length → Fl n l w u → cst l u = sum → (∀ j : Nat, j < l.length → g.contains (j : Int) = true → gi u j = 0) → (∀ y ∈ g, (k : Int) ≤ y) →
    (∀ i : Nat, k ≤ i → i < l.length → g.contains (i : Int) = false → None_ n l w sum (fun j => g.contains (j : Int) = true ∨ j = i)) →
    ∃ fin : List Int × List Int, coreGo 2000000 n l w sum k u g = some fin ∧ Fl n l w fin.1 ∧ cst l fin.1 = sum ∧ (∀ j : Nat, j < l.length → fin.2.contains (j : Int) = true → gi fin.1 j = 0) ∧
      ∀ i : Nat, i < l.length → fin.2.contains (i : Int) = false → None_ n l w sum (fun j => fin.2.contains (j : Int) = true ∨ j = i)
  | 0, u, g, _, hf, hc, hav, _, hmin => ⟨(u, g), rfl, hf, hc, hav, fun i hi hg => hmin i (by omega) hi hg⟩
  | k + 1, u, g, hk, hf, hc, hav, hg, hmin => by
    have hkg : g.contains (k : Int) = false := by
      cases hq : g.contains (k : Int) with
      | false => rfl
      | true =>
        have := hg k (List.contains_iff_mem.1 hq)
        omega
    have hput := putS_new hkg
    have hg' : ∀ y ∈ g ++ [(k : Int)], (k : Int) ≤ y := by
      intro y hy
      rcases List.mem_append.1 hy with h1 | h1
      · have := hg y h1; omega
      · simp at h1; omega
    have hmin' : ∀ i : Nat, k ≤ i → i < l.length → (g ++ [(k : Int)]).contains (i : Int) = false → None_ n l w sum (fun j => (g ++ [(k : Int)]).contains (j : Int) = true ∨ j = i) := by
      intro i hi hil hgi u' hu' h0
      rw [contains_app] at hgi
      simp only [Bool.or_eq_false_iff, beq_eq_false_iff_ne] at hgi
      have hne : i ≠ k := fun e => hgi.2 (by rw [e])
      refine hmin i (by omega) hil hgi.1 u' hu' fun j hj hP => h0 j hj ?_
      rcases hP with hP | hP
      · left; rw [contains_app, hP]; rfl
      · exact .inr hP
    unfold coreGo
    by_cases h0 : gi u k = 0
    · rw [if_pos (by simpa using h0), hput]
      refine core_spec h k u _ (by omega) hf hc (fun j hj hcj => ?_) hg' hmin'
      rw [contains_app] at hcj
      simp only [Bool.or_eq_true, beq_iff_eq] at hcj
      rcases hcj with h1 | h1
      · exact hav j hj h1
      · rw [h1]; exact h0
    · rw [if_neg (by simpa using h0)]
      obtain ⟨r, hr, hcase⟩ := lacks_spec h (putS g k)
      rw [hr]
      rcases hcase with ⟨h1, h2, h3, h4⟩ | ⟨h1, h2⟩
      · simp only [h1, if_true]
        rw [hput] at h2 h3 h4 ⊢
        exact core_spec h k _ _ (by omega) h2 h3 h4 hg' hmin'
      · simp only [h1, Bool.false_eq_true, if_false]
        have he : (putS g k).erase (k : Int) = g := by
          rw [hput, List.erase_append_right _ (fun hm => by rw [List.contains_iff_mem.2 hm] at hkg; cases hkg)]
          simp
        rw [he]
        refine core_spec h k u g (by omega) hf hc hav (fun y hy => by have := hg y hy; omega) fun i hi hil hgi => ?_
        by_cases e : i = k
        · subst e
          intro u' hu' h5
          refine h2 u' hu' fun j hj hcj => h5 j hj ?_
          rw [hput, contains_app] at hcj
          simp only [Bool.or_eq_true, beq_iff_eq] at hcj
          rcases hcj with h6 | h6
          · exact .inl h6
          · right; omega
        · exact hmin i (by omega) hil hgi
/-- The numbers below k that a test takes. -/
def ndN (P : Nat → Bool) : Nat → List Int
  | 0 => []
  | k + 1 => if P k then ndN P k ++ [(k : Int)] else ndN P k
theorem ndN_succ (P : Nat → Bool) (k : Nat) : ndN P (k + 1) = if P k then ndN P k ++ [(k : Int)] else ndN P k := rfl
theorem ndN_has (P : Nat → Bool) : ∀ (m : Nat) (k : Nat), (ndN P m).contains (k : Int) = (decide (k < m) && P k)
  | 0, k => by simp [ndN]
  | m + 1, k => by
    unfold ndN
    have ih := ndN_has P m k
    by_cases hp : P m = true
    · rw [if_pos hp, contains_app, ih]
      by_cases e : k = m
      · subst e; simp [hp]
      · have e2 : ((k : Int) == (m : Int)) = false := by simp; omega
        rw [e2, Bool.or_false]
        by_cases h : k < m
        · simp [h, show k < m + 1 by omega]
        · simp [h, show ¬ k < m + 1 by omega]
    · rw [if_neg hp, ih]
      by_cases e : k = m
      · subst e
        have : P k = false := by simpa using hp
        simp [this]
      · by_cases h : k < m
        · simp [h, show k < m + 1 by omega]
        · simp [h, show ¬ k < m + 1 by omega]
theorem ndN_mem (P : Nat → Bool) : ∀ (m : Nat) (y : Int), y ∈ ndN P m → ∃ k : Nat, k < m ∧ P k = true ∧ y = k
  | 0, y, h => by simp [ndN] at h
  | m + 1, y, h => by
    unfold ndN at h
    split at h
    · rename_i hp
      rcases List.mem_append.1 h with h | h
      · obtain ⟨k, h1, h2, h3⟩ := ndN_mem P m y h
        exact ⟨k, by omega, h2, h3⟩
      · simp at h
        exact ⟨m, by omega, hp, h⟩
    · obtain ⟨k, h1, h2, h3⟩ := ndN_mem P m y h
      exact ⟨k, by omega, h2, h3⟩
theorem tightL_nd (n : Nat) (l : List Lk) (u : List Int) : ∀ k, tightL n l u k = ndN (fun k => gi (boundsL n (rigidL l u) (gl l k).b) (gl l k).a == wrap64 (-(gl l k).m)) k
  | 0 => rfl
  | k + 1 => by
    unfold tightL ndN
    rw [tightL_nd n l u k]
theorem idxN_nd (S : List Int) : ∀ k, idxN S k = ndN (fun k => !S.contains (k : Int)) k
  | 0 => rfl
  | k + 1 => by
    unfold idxN ndN
    rw [idxN_nd S k]
    cases S.contains (k : Int) <;> rfl
theorem needed_spec {n : Nat} {l : List Lk} {w u : List Int} {sum : Int} (h : Opt n l w sum) : ∀ m, m ≤ l.length → ∃ P : Nat → Bool, neededN 2000000 n l w u sum m = some (ndN P m) ∧ ∀ k : Nat, k < m → (P k = true ↔ gi u k ≠ 0 ∧ None_ n l w sum (fun j => j = k))
  | 0, _ => ⟨fun _ => false, rfl, fun k hk => by omega⟩
  | m + 1, hm => by
    obtain ⟨P, h1, h2⟩ := needed_spec (u := u) h m (by omega)
    have hext : ∀ b : Bool, ndN (fun k => if k = m then b else P k) m = ndN P m := by
      intro b
      have key : ∀ j, j ≤ m → ndN (fun k => if k = m then b else P k) j = ndN P j := by
        intro j
        induction j with
        | zero => intro _; rfl
        | succ j ih =>
          intro hj
          unfold ndN
          rw [ih (by omega), if_neg (show j ≠ m by omega)]
      exact key m (Nat.le_refl _)
    have hfin : ∀ b : Bool, (b = true ↔ gi u m ≠ 0 ∧ None_ n l w sum (fun j => j = m)) → ∀ k : Nat, k < m + 1 → ((if k = m then b else P k) = true ↔ gi u k ≠ 0 ∧ None_ n l w sum (fun j => j = k)) := by
      intro b hb k hk
      by_cases e : k = m
      · subst e; rw [if_pos rfl]; exact hb
      · rw [if_neg e]; exact h2 k (by omega)
    unfold neededN
    rw [h1]
    by_cases h0 : gi u m = 0
    · refine ⟨fun k => if k = m then false else P k, ?_, hfin false ⟨fun e => (by cases e), fun e => absurd h0 e.1⟩⟩
      simp only [show (gi u m == 0) = true by simpa using h0, if_true]
      rw [ndN_succ, hext, if_pos rfl]
      rfl
    · obtain ⟨r, hr, hcase⟩ := lacks_spec h [(m : Int)]
      have hone : ∀ j : Nat, ([(m : Int)].contains (j : Int) = true ↔ j = m) := by
        intro j
        simp
        omega
      rcases hcase with ⟨q1, q2, q3, q4⟩ | ⟨q1, q2⟩
      · refine ⟨fun k => if k = m then false else P k, ?_, hfin false ⟨fun e => (by cases e), fun e => absurd q3 (e.2 _ q2 fun j hj hP => q4 j hj ((hone j).2 hP))⟩⟩
        simp only [show (gi u m == 0) = false by simpa using h0, hr, q1, if_true, Bool.false_eq_true, if_false]
        rw [ndN_succ, hext, if_pos rfl]
        rfl
      · refine ⟨fun k => if k = m then true else P k, ?_, hfin true ⟨fun _ => ⟨h0, fun u' hu' h5 => q2 u' hu' fun j hj hc => h5 j hj ((hone j).1 hc)⟩, fun _ => rfl⟩⟩
        simp only [show (gi u m == 0) = false by simpa using h0, hr, q1, Bool.false_eq_true, if_false]
        rw [ndN_succ, hext, if_pos rfl]
        rfl
/-! Tight. -/
theorem settled_less {n : Nat} {l : List Lk} (hr : ∀ k ∈ l, InR n k) : ∀ (r : Nat) (x : List Int), x.length = n → ∀ v : Int, 0 ≤ v → gi (settledN l r x).1 v ≤ gi x v
  | 0, x, _, v, _ => Int.le_refl _
  | r + 1, x, hx, v, hv => by
    have h1 := (fold_less l (x, false) hx hr).1 v hv
    have hlen : (roundOf l x).1.length = n := by unfold roundOf; rw [foldl_relax_length]; exact hx
    unfold settledN
    split
    · exact Int.le_trans (settled_less hr r _ hlen v hv) h1
    · exact h1
/-- The bounds from a node, of a net with a solution. -/
theorem bounds_facts {n : Nat} {l : List Lk} {s : Int} (hok : NetOk n l) {p : Int → Int} (hp : ∀ v, -1000000000000000 ≤ p v) (hp0 : ∀ v, p v ≤ 0) (hf : ∀ k ∈ l, p k.b ≤ p k.a + k.m) (hs0 : 0 ≤ s) (hs1 : s < n) :
    gi (boundsL n l s) s = 0 ∧ (∀ v : Int, 0 ≤ v → v < n → gi (boundsL n l s) v = free ∨ (p v - p s ≤ gi (boundsL n l s) v ∧ gi (boundsL n l s) v ≤ 343597383680000)) ∧
    ∀ k ∈ l, gi (boundsL n l s) k.a = free ∨ gi (boundsL n l s) k.b ≤ gi (boundsL n l s) k.a + k.m := by
  have hk : ∀ k ∈ l, InR n k ∧ (-17179869184 ≤ k.m ∧ k.m ≤ 17179869184) ∧ p k.b ≤ p k.a + k.m := fun k hk => ⟨(hok.lk k hk).1, (hok.lk k hk).2.2, hf k hk⟩
  have hn2 := hok.n2
  obtain ⟨_, _, h3⟩ := bounds_riter (l := l) hp hp0 hok.l1 (by omega) hk hs0 hs1
  have hc : -1000000000000000 ≤ -(p s) := by have := hp0 s; omega
  have h0 : Gd n p (-(p s)) 0 (si (List.replicate n free) s 0) := by
    refine ⟨by simp [si], fun v v0 v1 => ?_⟩
    rw [start_gi hs0 hs1 v v0 v1]
    split
    · rename_i e; subst e; right; omega
    · exact .inl rfl
  have hfix := riter_fixed hp hc hok.l1 (by omega) hk h0
  have hflag := settled_flag hp hc hok.l1 hk (n + 1) 0 _ (by simpa using h0) (by omega) ⟨n, by omega, hfix⟩
  have e : boundsL n l s = (settledN l (n + 1) (si (List.replicate n free) s 0)).1 := by
    unfold boundsL settled
    rw [show (si (List.replicate n free) s 0).length = n by simp [si]]
  have hle := settled_less (n := n) (fun k hk2 => (hok.lk k hk2).1) (n + 1) (si (List.replicate n free) s 0) (by simp [si]) s hs0
  rw [start_gi hs0 hs1 s hs0 hs1, if_pos rfl, ← e] at hle
  have hval : ∀ v : Int, 0 ≤ v → v < n → gi (boundsL n l s) v = free ∨ (p v - p s ≤ gi (boundsL n l s) v ∧ gi (boundsL n l s) v ≤ 343597383680000) := by
    intro v v0 v1
    rcases h3.val v v0 v1 with h | h
    · exact .inl h
    · right; omega
  refine ⟨?_, hval, fun k hk2 => ?_⟩
  · rcases hval s hs0 hs1 with h | h
    · rw [h] at hle; unfold free at hle; omega
    · omega
  · have h4 := settledN_true l _ _ hflag k hk2
    rw [← e] at h4
    rcases h4 with h4 | h4
    · exact .inl h4
    · obtain ⟨⟨a0, a1, b0, b1⟩, _, m1, m2⟩ := hok.lk k hk2
      rcases hval k.a a0 a1 with h5 | h5
      · exact .inl h5
      · right
        have q1 := hp k.a
        have q2 := hp0 s
        have q3 := hp0 k.a
        have q4 := hp s
        unfold overB at h4
        rw [wrap_in (by omega)] at h4
        simpa using h4
theorem sum_zero_each {g : Nat → Int} : ∀ (k : Nat), (∀ i, i < k → 0 ≤ g i) → sumN g k = 0 → ∀ i, i < k → g i = 0
  | 0, _, _, i, h => absurd h (by omega)
  | k + 1, h0, hs, i, hi => by
    have h1 := sumN_nonneg k fun j hj => h0 j (by omega)
    have h2 := h0 k (by omega)
    have e : sumN g (k + 1) = sumN g k + g k := rfl
    by_cases hk : i = k
    · subst hk; omega
    · exact sum_zero_each k (fun j hj => h0 j (by omega)) (by omega) i (by omega)
/-- Links with units are tight in each best solution. -/
theorem slack_zero {n : Nat} {l : List Lk} {w u : List Int} {x : Int → Int} (hlk : ∀ k : Nat, k < l.length → 0 ≤ (gl l k).a ∧ (gl l k).a < n ∧ 0 ≤ (gl l k).b ∧ (gl l k).b < n) (hu : Fl n l w u) (hf : ∀ k : Nat, k < l.length → x (gl l k).b ≤ x (gl l k).a + (gl l k).m) (he : sumN (fun v : Nat => gi w v * x v) n = cst l u) : ∀ k : Nat, k < l.length → 0 < gi u k → x (gl l k).b = x (gl l k).a + (gl l k).m := by
  have h := dual_sum u x hlk
  rw [sumN_congr (h := fun v : Nat => gi w v * x v) n (fun i hi => by rw [hu.cons i hi, Int.mul_comm]), he] at h
  have hz : sumN (fun k => gi u k * ((gl l k).m - (x (gl l k).b - x (gl l k).a))) l.length = 0 := by
    have e : sumN (fun k => gi u k * (gl l k).m) l.length = sumN (fun k => gi u k * ((gl l k).m - (x (gl l k).b - x (gl l k).a)) + gi u k * (x (gl l k).b - x (gl l k).a)) l.length := sumN_congr _ fun k _ => by
      rw [← Int.mul_add]; congr 1; omega
    rw [sumN_add, ← h] at e
    unfold cst at e
    omega
  intro k hk h0
  have h1 := sum_zero_each l.length (fun i hi => Int.mul_nonneg (hu.u0 i hi) (by have := hf i hi; omega)) hz k hk
  rcases Int.mul_eq_zero.1 h1 with h2 | h2
  · omega
  · omega
theorem tight_spec {n : Nat} {l : List Lk} {w u x0 : List Int} (hok : NetOk n l) (hl : l.length ≤ 60) (hn : n ≤ 12) (hw : w.length = n) (hwb : ∀ i : Nat, i < n → -100000 ≤ gi w i ∧ gi w i ≤ 100000) (hb : Best n l w u x0) (k : Nat) (hk : k < l.length) :
    (0 < gi u k → (gi (boundsL n (rigidL l u) (gl l k).b) (gl l k).a == wrap64 (-(gl l k).m)) = true) ∧
    ((gi (boundsL n (rigidL l u) (gl l k).b) (gl l k).a == wrap64 (-(gl l k).m)) = true → ∀ x : List Int, x.length = n → (∀ v : Int, 0 ≤ v → v < n → -1099511627776 ≤ gi x v ∧ gi x v ≤ 1099511627776) → (∀ j : Nat, j < l.length → gi x (gl l j).b ≤ gi x (gl l j).a + (gl l j).m) → sumN (fun v : Nat => gi w v * gi x v) n = cst l u → gi x (gl l k).b = gi x (gl l k).a + (gl l k).m) := by
  have hS := netOk_lk hok hn
  have hlk : ∀ k : Nat, k < l.length → 0 ≤ (gl l k).a ∧ (gl l k).a < n ∧ 0 ≤ (gl l k).b ∧ (gl l k).b < n := fun k hk => by have := hS.lk k hk; omega
  have hrk := rigid_ok (u := u) hok (by omega)
  have hsol := (own_ok hok (by omega) hn hb).1
  have hpot := solution_pot hrk hsol
  obtain ⟨a0, a1, b0, b1, m1, m2⟩ := hS.lk k hk
  obtain ⟨q1, q2, q3⟩ := bounds_facts (s := (gl l k).b) hrk hpot.lo hpot.hi hpot.fit b0 b1
  have hfl := (best_fl hS hl hw hwb hb).1
  have hwr : wrap64 (-(gl l k).m) = -(gl l k).m := wrap_in (by omega)
  rw [hwr]
  constructor
  · intro h0
    have hbk : (⟨(gl l k).b, (gl l k).a, wrap64 (-(gl l k).m)⟩ : Lk) ∈ rigidL l u := List.mem_append.2 (.inr ((backs_at hb.lu).2 ⟨k, hk, h0, rfl⟩))
    have h1 := hpot.fit _ (List.mem_append.2 (.inl (gl_mem (i := (k : Int)) (by omega) (by omega))))
    have h2 := q3 _ hbk
    have h3 := q2 _ a0 a1
    have h4 := hpot.lo (gl l k).a
    have h5 := hpot.hi (gl l k).a
    have h6 := hpot.lo (gl l k).b
    have h7 := hpot.hi (gl l k).b
    generalize boundsL n (rigidL l u) (gl l k).b = d at *
    generalize (solutionL n (rigidL l u)).1 = y at *
    change gi y (gl l k).b ≤ gi y (gl l k).a + (gl l k).m at h1
    change gi d (gl l k).b = free ∨ gi d (gl l k).a ≤ gi d (gl l k).b + wrap64 (-(gl l k).m) at h2
    rw [hwr, q1] at h2
    have h8 : gi d (gl l k).a ≤ 0 + -(gl l k).m := by
      rcases h2 with h2 | h2
      · unfold free at h2; omega
      · exact h2
    have h9 : gi d (gl l k).a = -(gl l k).m := by
      rcases h3 with h3 | h3
      · rw [h3] at h8; unfold free at h8; omega
      · change gi y (gl l k).a - gi y (gl l k).b ≤ _ ∧ _ at h3
        omega
    simpa using h9
  · intro hP x hx hv hf he
    have ht := slack_zero hlk (x := fun v => gi x v) hfl hf he
    have hP' : gi (boundsL n (rigidL l u) (gl l k).b) (gl l k).a = -(gl l k).m := by simpa using hP
    have hxv : ∀ v : Int, -1099511627776 ≤ gi x v ∧ gi x v ≤ 1099511627776 := by
      intro v
      rw [gi_toNat]
      by_cases h : v.toNat < n
      · exact hv _ (by omega) (by omega)
      · rw [gi_out (by omega)]; omega
    obtain ⟨_, r2, _⟩ := bounds_facts (s := (gl l k).b) hrk (p := fun v => gi x v - 1099511627776) (fun v => by have := hxv v; show -1000000000000000 ≤ gi x v - 1099511627776; omega) (fun v => by have := hxv v; show gi x v - 1099511627776 ≤ 0; omega) (fun q hq => by
      show gi x q.b - 1099511627776 ≤ gi x q.a - 1099511627776 + q.m
      rcases List.mem_append.1 hq with hq | hq
      · obtain ⟨j, hj, e⟩ := List.mem_iff_getElem.1 hq
        have e2 : gl l j = q := by rw [← e]; simp [gl, List.getD_eq_getElem?_getD, hj]
        have := hf j hj
        rw [e2] at this
        omega
      · obtain ⟨j, hj, h0, rfl⟩ := (backs_at hb.lu).1 hq
        have h1 := ht j hj h0
        have h2 := hS.lk j hj
        change gi x (gl l j).a - 1099511627776 ≤ gi x (gl l j).b - 1099511627776 + wrap64 (-(gl l j).m)
        change gi x (gl l j).b = gi x (gl l j).a + (gl l j).m at h1
        rw [wrap_in (by omega)]; omega) b0 b1
    have h1 := hf k hk
    rcases r2 _ a0 a1 with h2 | h2
    · rw [hP'] at h2; unfold free at h2; omega
    · rw [hP'] at h2
      change gi x (gl l k).a - 1099511627776 - (gi x (gl l k).b - 1099511627776) ≤ _ ∧ _ at h2
      omega

theorem keptN_congr {l : List Lk} {p q : Int → Bool} : ∀ m : Nat, (∀ k : Nat, k < m → p k = q k) → keptN l p m = keptN l q m
  | 0, _ => rfl
  | m + 1, h => by
    unfold keptN
    rw [keptN_congr m fun k hk => h k (by omega), h m (by omega)]
theorem opt_kept {n : Nat} {l : List Lk} {w : List Int} {sum : Int} (h : Opt n l w sum) (S : List Int) : Opt n (keptL l (notIn S)) w sum := by
  have hpot := solution_pot h.ok h.sol
  refine ⟨kept_ok h.ok, h.n12, Nat.le_trans (keptL_len l _) h.l60, h.wl, h.wb, h.ws, sol_any (kept_ok h.ok) (x := fun v => gi (solutionL n l).1 v) fun k hk => hpot.fit k (keptL_mem hk), fun u hu => ?_⟩
  obtain ⟨s1, s2⟩ := spread_flow hu
  rw [← s2]
  exact h.min_ _ s1
/-- A net of which a flow costs the least possible. -/
theorem opt_most {n : Nat} {l : List Lk} {w : List Int} {sum : Int} (h : Opt n l w sum) {u : List Int} (hu : Fl n l w u) (hc : cst l u = sum) : MostP 2000000 n l w = some (sum, 0) := by
  have ha : askedI n l w = 0 := asked_of (ok_check h.ok) h.ws
  have hS := netOk_lk h.ok h.n12
  have hlk : ∀ k : Nat, k < l.length → 0 ≤ (gl l k).a ∧ (gl l k).a < n ∧ 0 ≤ (gl l k).b ∧ (gl l k).b < n := fun k hk => by have := hS.lk k hk; omega
  obtain ⟨r, hr, hcase⟩ := best_facts ha h.n12
  unfold MostP
  rw [if_pos ha, Int.toNat_natCast, hr]
  rcases hcase with ⟨rfl, h1⟩ | ⟨rfl, _, h2⟩ | ⟨u1, x, rfl, _, h2⟩
  · rw [h.sol] at h1; cases h1
  · exact absurd (cut_none hlk h2 hu.u0 hu.cons) id
  · obtain ⟨b1, b2, b3⟩ := best_fl hS h.l60 h.wl h.wb h2
    have h3 := b3 _ hu
    have h4 := h.min_ _ b1
    have e : costI l u1 = sum := by rw [b2]; omega
    show some (mostV l (u1, 0)) = _
    unfold mostV
    rw [if_pos rfl, e]
/-- Without a link that no best flow can spare, the greatest sum is another one. -/
theorem opt_less {n : Nat} {l : List Lk} {w : List Int} {sum : Int} (h : Opt n l w sum) (z : Nat) (hno : None_ n l w sum (fun j => j = z)) : ∃ r, MostP 2000000 n (keptL l (notIn [(z : Int)])) w = some r ∧ ¬ (r.2 = 0 ∧ r.1 = sum) := by
  have h2 := opt_kept h [(z : Int)]
  have ha : askedI n (keptL l (notIn [(z : Int)])) w = 0 := asked_of (ok_check h2.ok) h2.ws
  have hS := netOk_lk h2.ok h2.n12
  obtain ⟨r, hr, hcase⟩ := best_facts ha h2.n12
  refine ⟨mostV _ r, by unfold MostP; rw [if_pos ha, Int.toNat_natCast, hr]; rfl, ?_⟩
  rcases hcase with ⟨rfl, h1⟩ | ⟨rfl, _, h3⟩ | ⟨u1, x, rfl, _, h3⟩
  · rintro ⟨q1, _⟩
    have : ((9 : Int)) = 0 := q1
    omega
  · rintro ⟨q1, _⟩
    have : ((5 : Int)) = 0 := q1
    omega
  · rintro ⟨_, q2⟩
    have q3 : costI (keptL l (notIn [(z : Int)])) u1 = sum := q2
    obtain ⟨b1, b2, b3⟩ := best_fl hS h2.l60 h2.wl h2.wb h3
    obtain ⟨s1, s2⟩ := spread_flow b1
    refine hno _ s1 (fun j hj e => spread_zero [(z : Int)] u1 l j hj (by subst e; simp)) ?_
    rw [s2, ← b2, q3]
structure SlackOk (n : Int) (l : List Lk) (p x : List Int) (most : Int) (u t d c : List Int) : Prop where
  pr : proveP 2000000 n l p = some (u, 0)
  len : u.length = l.length
  ti : tightR n l (u, 0) = (t, 0)
  ne : neededP 2000000 n l p = some (d, 0)
  co : coreP 2000000 n l p = some (c, 0)
  tm : ∀ y ∈ t, 0 ≤ y ∧ y < l.length
  tl : t.length ≤ l.length
  dl : d.length ≤ l.length
  cl : c.length ≤ l.length
  ut : ∀ k : Nat, k < l.length → 0 < gi u k → t.contains (k : Int) = true
  dc : ∀ k : Nat, k < l.length → d.contains (k : Int) = true → c.contains (k : Int) = true ∧ gi u k ≠ 0
  xt : fitsR n l x = (true, 0) → valueR n l p x = (most, 0) → ∀ y ∈ t, gi x (gl l y).b = wrap64 (gi x (gl l y).a + (gl l y).m)
  al : MostP 2000000 n (keptL l (notIn (ndN (fun k => !c.contains (k : Int)) l.length))) p = some (most, 0)
  ac : checkL n (keptL l (notIn (ndN (fun k => !c.contains (k : Int)) l.length))) = 0
  le : ∀ z : Nat, z < (keptL l (notIn (ndN (fun k => !c.contains (k : Int)) l.length))).length → ∃ r, MostP 2000000 n (keptL (keptL l (notIn (ndN (fun k => !c.contains (k : Int)) l.length))) (notIn [(z : Int)])) p = some r ∧ ¬ (r.2 = 0 ∧ r.1 = most)
theorem ndN_len (P : Nat → Bool) : ∀ m, (ndN P m).length ≤ m
  | 0 => Nat.le_refl _
  | m + 1 => by
    have := ndN_len P m
    rw [ndN_succ]
    split
    · simp; omega
    · omega
theorem slack_law (n : Int) (l : List Lk) (p x : List Int) (most : Int) (ha : askedI n l p = 0) (hsm : lightB n l.length = true) (hm : MostP 2000000 n l p = some (most, 0)) : ∃ u t d c, SlackOk n l p x most u t d c := by
  have hn1 := (check_ok (asked_ok ha).1).n1
  obtain ⟨N, rfl⟩ : ∃ N : Nat, n = N := ⟨n.toNat, by omega⟩
  obtain ⟨hok, hw, hwb, hsum⟩ := asked_facts ha
  have hsm2 : (N : Int) ≤ 8 ∧ l.length ≤ 18 := by simpa [lightB] using hsm
  have hn : N ≤ 12 := by omega
  have hS := netOk_lk hok hn
  have hck : checkL N l = 0 := (asked_ok ha).1
  obtain ⟨r, hr, hc⟩ := best_facts ha hn
  have hm2 : some (mostV l r) = some (most, 0) := by
    rw [← hm]; unfold MostP; rw [if_pos ha, Int.toNat_natCast, hr]; rfl
  have hm3 : mostV l r = (most, 0) := Option.some.inj hm2
  rcases hc with ⟨rfl, _⟩ | ⟨rfl, _⟩ | ⟨u, x0, rfl, hs, hb⟩
  · have : ((9 : Int)) = 0 := congrArg Prod.snd hm3
    omega
  · have : ((5 : Int)) = 0 := congrArg Prod.snd hm3
    omega
  have hmost : costI l u = most := congrArg Prod.fst hm3
  obtain ⟨hO, hF, hcu⟩ := opt_of ha hn (by omega) hs hb
  rw [hmost] at hO hcu
  have hp : proveP 2000000 N l p = some (u, 0) := by unfold proveP; rw [if_pos ha, Int.toNat_natCast]; exact hr
  obtain ⟨Pn, n1, n2⟩ := needed_spec (u := u) hO l.length (Nat.le_refl _)
  obtain ⟨fin, c1, c2, c3, c4, c5⟩ := core_spec hO l.length u [] (Nat.le_refl _) hF hcu (fun j _ h => by simp at h) (fun y h => by simp at h) (fun i h1 h2 => by omega)
  obtain ⟨fu, g⟩ := fin
  simp only at c2 c3 c4 c5
  have ht : ∀ k : Nat, k < l.length → _ := fun k hk => tight_spec hok (by omega) hn hw hwb hb k hk
  have hcore : ∀ k : Nat, k < l.length → (idxN g l.length).contains (k : Int) = !g.contains (k : Int) := by
    intro k hk
    rw [idxN_nd, ndN_has]
    simp [hk]
  have hgone : ∀ k : Nat, k < l.length → notIn (ndN (fun k => !(idxN g l.length).contains (k : Int)) l.length) k = notIn g k := by
    intro k hk
    unfold notIn
    rw [ndN_has, hcore k hk]
    simp [hk]
  have hkept : keptL l (notIn (ndN (fun k => !(idxN g l.length).contains (k : Int)) l.length)) = keptL l (notIn g) := keptN_congr l.length hgone
  have hOA := opt_kept hO g
  have hFA := sel_flow c2 c4
  have hcA : cst (keptL l (notIn g)) (selN g fu l.length) = most := by rw [sel_cst c4, c3]
  refine ⟨u, ndN (fun k => gi (boundsL N (rigidL l u) (gl l k).b) (gl l k).a == wrap64 (-(gl l k).m)) l.length, ndN Pn l.length, idxN g l.length, hp, hb.lu, ?_, ?_, ?_, ?_, ndN_len _ _, ndN_len _ _, idxN_len _ _, ?_, ?_, ?_, ?_, ?_, ?_⟩
  · unfold tightR
    rw [if_pos rfl, Int.toNat_natCast, tightL_nd]
  · unfold neededP
    rw [hp]
    simp only [if_true, Int.toNat_natCast]
    rw [hmost, n1]
    rfl
  · unfold coreP
    rw [hp]
    simp only [if_true, Int.toNat_natCast]
    rw [hmost, c1]
    rfl
  · intro y hy
    obtain ⟨k, h1, _, rfl⟩ := ndN_mem _ _ _ hy
    omega
  · intro k hk h0
    rw [ndN_has, (ht k hk).1 h0]
    simp [hk]
  · intro k hk hd
    rw [ndN_has] at hd
    have hP : Pn k = true := by simpa [hk] using hd
    obtain ⟨q1, q2⟩ := (n2 k hk).1 hP
    refine ⟨?_, q1⟩
    rw [hcore k hk]
    cases hq : g.contains (k : Int) with
    | false => rfl
    | true => exact absurd c3 (q2 fu c2 fun j hj e => by subst e; exact c4 j hj hq)
  · intro hf hv y hy
    obtain ⟨k, h1, h2, rfl⟩ := ndN_mem _ _ _ hy
    obtain ⟨f1, f2, f3⟩ := fits_ok hf
    obtain ⟨a1, a2⟩ := are_at f2
    have hvs : valueI p x = most := by
      unfold valueR at hv
      rw [if_neg (by simpa using ha), if_neg (by rw [f2]; simp)] at hv
      exact congrArg Prod.fst hv
    have h3 := (ht k h1).2 h2 x a1 a2 ((fits_at hS a2).1 f3) (by rw [← value_sum hn hw hwb a1 a2, hvs, hcu])
    obtain ⟨q1, q2, q3, q4, q5, q6⟩ := hS.lk k h1
    have h4 := a2 _ q1 q2
    rw [wrap_in (by omega)]
    exact h3
  · rw [hkept]
    exact opt_most hOA hFA hcA
  · rw [hkept]
    exact ok_check hOA.ok
  · rw [hkept]
    intro z hz
    refine opt_less hOA z fun u' hu' h0 he => ?_
    obtain ⟨s1, s2⟩ := spread_flow hu'
    have hzl : z < (idxN g l.length).length := by rw [← kept_pos g l]; exact hz
    obtain ⟨i, i1, i2, i3, i4⟩ := idxN_at g l.length z hzl
    refine c5 i i1 i3 _ s1 (fun j hj hP => ?_) (by rw [s2]; exact he)
    rcases hP with hP | rfl
    · exact spread_zero g u' l j hj hP
    · rw [spread_gi, if_pos ⟨i3, i1⟩, i4]
      exact h0 z hz rfl
end Go.Proofs.Ytmhiiomejopaoaa
