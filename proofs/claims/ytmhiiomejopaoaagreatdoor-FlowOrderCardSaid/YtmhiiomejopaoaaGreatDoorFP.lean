/- Plain: the text of a net, and its reading. -/
import Derived.Test.YtmhiiomejopaoaaGreatDoorM0
import Derived.Test.YtmhiiomejopaoaaGreatDoorZL
import Derived.Lib.AtoiTie
import Derived.Lib.Split
import Derived.Lib.Bytealg
import Derived.Lib.Strings
namespace Go.Proofs.YtmhiiomejopaoaaGreatDoor
set_option linter.all false
open Go.RowKit

/-! ### digits -/
theorem dd_lt {u : Nat} (h : u < 10) : Lib.decDigits u = [UInt8.ofNat (48 + u)] := by rw [Lib.decDigits, dif_pos h]
theorem dd_ge {u : Nat} (h : ¬ u < 10) : Lib.decDigits u = Lib.decDigits (u / 10) ++ [UInt8.ofNat (48 + u % 10)] := by rw [Lib.decDigits, dif_neg h]
theorem dg_nat {d : Nat} (h : d < 10) : (UInt8.ofNat (48 + d)).toNat = 48 + d := by rw [UInt8.toNat_ofNat']; omega
theorem dd_dig (u : Nat) : ∀ b ∈ Lib.decDigits u, 48 ≤ b.toNat ∧ b.toNat ≤ 57 := by
  induction u using Nat.strongRecOn with
  | ind u ih =>
    intro b hb
    by_cases h : u < 10
    · rw [dd_lt h, List.mem_singleton] at hb
      subst hb
      rw [dg_nat h]
      omega
    · rw [dd_ge h, List.mem_append, List.mem_singleton] at hb
      rcases hb with hb | rfl
      · exact ih (u / 10) (by omega) b hb
      · rw [dg_nat (by omega)]
        omega
theorem dd_ne (u : Nat) : Lib.decDigits u ≠ [] := by
  by_cases h : u < 10
  · rw [dd_lt h]; simp
  · rw [dd_ge h]; simp
theorem dd_len : ∀ (k u : Nat), u < 10 ^ (k + 1) → (Lib.decDigits u).length ≤ k + 1
  | 0, u, h => by rw [dd_lt (by simpa using h)]; simp
  | k + 1, u, h => by
    by_cases h9 : u < 10
    · rw [dd_lt h9]; simp
    · rw [dd_ge h9]
      have : (10 : Nat) ^ (k + 1 + 1) = 10 ^ (k + 1) * 10 := Nat.pow_succ _ _
      have := dd_len k (u / 10) (by omega)
      simp
      omega
theorem digitVal_dig {d : Nat} (h : d < 10) : Lib.digitVal (UInt8.ofNat (48 + d)) = some d := by
  unfold Lib.digitVal
  rw [dg_nat h, if_pos (by omega)]
  congr 1
  omega
theorem decFrom_append : ∀ (l1 l2 : List UInt8) (acc : Nat), Lib.decFrom acc (l1 ++ l2) = (Lib.decFrom acc l1).bind fun a => Lib.decFrom a l2
  | [], _, _ => rfl
  | c :: r, l2, acc => by
    show (match Lib.digitVal c with | some d => Lib.decFrom (acc * 10 + d) (r ++ l2) | none => none) = _
    show _ = (match Lib.digitVal c with | some d => Lib.decFrom (acc * 10 + d) r | none => none).bind _
    cases Lib.digitVal c with
    | none => rfl
    | some d => exact decFrom_append r l2 _
theorem decFrom_dd (u : Nat) : Lib.decFrom 0 (Lib.decDigits u) = some u := by
  induction u using Nat.strongRecOn with
  | ind u ih =>
    by_cases h : u < 10
    · rw [dd_lt h]
      unfold Lib.decFrom
      rw [digitVal_dig h]
      simp [Lib.decFrom]
    · rw [dd_ge h, decFrom_append, ih (u / 10) (by omega)]
      show Lib.decFrom (u / 10) [UInt8.ofNat (48 + u % 10)] = some u
      unfold Lib.decFrom
      rw [digitVal_dig (by omega)]
      simp only [Lib.decFrom]
      congr 1
      omega
theorem decFrom_ge : ∀ (l : List UInt8) (acc v : Nat), Lib.decFrom acc l = some v → acc ≤ v
  | [], acc, v, h => by simp only [Lib.decFrom] at h; injection h with h; omega
  | c :: r, acc, v, h => by
    unfold Lib.decFrom at h
    cases hd : Lib.digitVal c with
    | none => rw [hd] at h; cases h
    | some d =>
      rw [hd] at h
      have := decFrom_ge r _ v h
      omega
theorem decNat_dd (u : Nat) : Lib.decNat (Lib.decDigits u) = some u := by
  unfold Lib.decNat
  rw [if_neg (by rw [List.isEmpty_iff]; exact dd_ne u)]
  exact decFrom_dd u

/-! ### numerals -/
def Small (n : Int) : Prop := -1000000000000 < n ∧ n < 1000000000000
theorem itoa_len {n : Int} (h : Small n) : (Lib.itoa n).length ≤ 13 := by
  obtain ⟨h1, h2⟩ := h
  unfold Lib.itoa
  split
  · have := dd_len 11 n.natAbs (by have : (10 : Nat) ^ (11 + 1) = 1000000000000 := by decide
                                   omega)
    simp
    omega
  · have := dd_len 11 n.toNat (by have : (10 : Nat) ^ (11 + 1) = 1000000000000 := by decide
                                  omega)
    omega
theorem itoa_bytes (n : Int) : ∀ b ∈ Lib.itoa n, b.toNat = 45 ∨ (48 ≤ b.toNat ∧ b.toNat ≤ 57) := by
  intro b hb
  unfold Lib.itoa at hb
  split at hb
  · rcases List.mem_cons.1 hb with rfl | hb
    · exact .inl rfl
    · exact .inr (dd_dig _ b hb)
  · exact .inr (dd_dig _ b hb)
theorem itoa_no32 (n : Int) : (32 : UInt8) ∉ Lib.itoa n := fun h => by
  rcases itoa_bytes n _ h with h | h
  · exact absurd h (by decide)
  · exact absurd h.1 (by decide)
theorem itoa_no10 (n : Int) : (10 : UInt8) ∉ Lib.itoa n := fun h => by
  rcases itoa_bytes n _ h with h | h
  · exact absurd h (by decide)
  · exact absurd h.1 (by decide)
theorem itoa_atoi {n : Int} (h : Small n) : Lib.atoiAll (Lib.itoa n) = .ok n := by
  rw [Lib.atoiAll_short _ (by have := itoa_len h; omega)]
  have hd : Lib.atoi (Lib.itoa n) = some n := by
    unfold Lib.itoa
    split
    · simp only [Lib.atoi, beq_self_eq_true, if_true]
      rw [decNat_dd]
      show some (-(n.natAbs : Int)) = some n
      congr 1
      omega
    · cases hl : Lib.decDigits n.toNat with
      | nil => exact absurd hl (dd_ne _)
      | cons b r =>
        have hb := dd_dig n.toNat b (by rw [hl]; exact List.mem_cons_self)
        have e1 : (b == 45) = false := by
          rw [beq_eq_false_iff_ne]
          rintro rfl
          exact absurd hb.1 (by decide)
        have e2 : (b == 43) = false := by
          rw [beq_eq_false_iff_ne]
          rintro rfl
          exact absurd hb.1 (by decide)
        simp only [Lib.atoi, e1, e2, Bool.false_eq_true, if_false]
        rw [← hl, decNat_dd]
        show some ((n.toNat : Int)) = some n
        congr 1
        omega
  rw [hd]
  rfl

/-! ### the text of a net -/
def nodesW : List UInt8 := [110, 111, 100, 101, 115]
def linkW : List UInt8 := [108, 105, 110, 107]
def numsB (l : List Int) : List UInt8 := l.flatMap fun n => 32 :: Lib.itoa n
def lineN (word : List UInt8) (l : List Int) : List UInt8 := word ++ numsB l ++ [10]
def lkL (k : Lk) : List UInt8 := lineN linkW [k.a, k.b, k.m]
def printL (n : Int) (l : List Lk) : List UInt8 := lineN nodesW [n] ++ l.flatMap lkL
theorem small_node {N a : Int} (h0 : 0 ≤ a) (h1 : a < N) (h2 : N ≤ 50) : Small a := ⟨by omega, by omega⟩
theorem NetOk.small {N : Int} {l : List Lk} (h : NetOk N l) : Small N ∧ ∀ k ∈ l, Small k.a ∧ Small k.b ∧ Small k.m := by
  have h1 := h.n1
  have h2 := h.n2
  refine ⟨⟨by omega, by omega⟩, fun k hk => ?_⟩
  obtain ⟨⟨a1, a2, b1, b2⟩, _, m1, m2⟩ := h.lk k hk
  exact ⟨⟨by omega, by omega⟩, ⟨by omega, by omega⟩, ⟨by omega, by omega⟩⟩
theorem numsB_len (l : List Int) (h : ∀ n ∈ l, Small n) : (numsB l).length ≤ 14 * l.length := by
  induction l with
  | nil => simp [numsB]
  | cons n t ih =>
    have h1 := itoa_len (h n List.mem_cons_self)
    have h2 := ih fun n hn => h n (List.mem_cons_of_mem _ hn)
    unfold numsB at h2 ⊢
    simp only [List.flatMap_cons, List.length_append, List.length_cons]
    omega
theorem lkL_len {k : Lk} (h : Small k.a ∧ Small k.b ∧ Small k.m) : (lkL k).length ≤ 47 := by
  have := numsB_len [k.a, k.b, k.m] (by
    intro n hn
    simp at hn
    rcases hn with rfl | rfl | rfl
    · exact h.1
    · exact h.2.1
    · exact h.2.2)
  unfold lkL lineN
  simp [linkW] at this ⊢
  omega
theorem links_len (l : List Lk) (h : ∀ k ∈ l, Small k.a ∧ Small k.b ∧ Small k.m) : (l.flatMap lkL).length ≤ 47 * l.length := by
  induction l with
  | nil => simp
  | cons k t ih =>
    have h1 := lkL_len (h k List.mem_cons_self)
    have h2 := ih fun n hn => h n (List.mem_cons_of_mem _ hn)
    simp only [List.flatMap_cons, List.length_append, List.length_cons]
    omega

/-! ### lines -/
def nlN (s : List UInt8) : Nat := if Lib.indexByte s 10 = -1 then s.length else (Lib.indexByte s 10).toNat + 1
def linesF : Nat → List UInt8 → List (List UInt8)
  | 0, _ => []
  | k + 1, s => if s = [] then [] else s.take (nlN s) :: linesF k (s.drop (nlN s))
theorem nlN_pos {s : List UInt8} (h : s ≠ []) : 1 ≤ nlN s := by
  unfold nlN
  split
  · exact List.length_pos_iff.2 h
  · omega
theorem linesF_more : ∀ (k j : Nat) (s : List UInt8), s.length ≤ k → s.length ≤ j → linesF k s = linesF j s
  | 0, j, s, h, _ => by
    obtain rfl : s = [] := List.eq_nil_of_length_eq_zero (by omega)
    cases j <;> simp [linesF]
  | k + 1, 0, s, _, h => by
    obtain rfl : s = [] := List.eq_nil_of_length_eq_zero (by omega)
    simp [linesF]
  | k + 1, j + 1, s, h1, h2 => by
    unfold linesF
    by_cases hs : s = []
    · rw [if_pos hs, if_pos hs]
    · rw [if_neg hs, if_neg hs]
      have := nlN_pos hs
      have hl := List.length_pos_iff.2 hs
      rw [linesF_more k j _ (by simp; omega) (by simp; omega)]
theorem index10 (a r : List UInt8) (h : (10 : UInt8) ∉ a) : Lib.indexByte (a ++ 10 :: r) 10 = a.length := by
  induction a with
  | nil => rfl
  | cons x t ih =>
    have h1 : (x == 10) = false := by
      rw [beq_eq_false_iff_ne]
      rintro rfl
      exact h List.mem_cons_self
    have h2 := ih fun hm => h (List.mem_cons_of_mem _ hm)
    show (if x == 10 then (0 : Int) else if Lib.indexByte (t ++ 10 :: r) 10 == -1 then -1 else Lib.indexByte (t ++ 10 :: r) 10 + 1) = _
    rw [h1, h2, if_neg (by simp), if_neg (by rw [beq_iff_eq]; omega)]
    simp
theorem nlN_line (a r : List UInt8) (h : (10 : UInt8) ∉ a) : nlN (a ++ 10 :: r) = a.length + 1 := by
  unfold nlN
  rw [index10 a r h, if_neg (by omega)]
  omega
theorem linesF_line (k : Nat) (a r : List UInt8) (h : (10 : UInt8) ∉ a) : linesF (k + 1) (a ++ 10 :: r) = (a ++ [10]) :: linesF k r := by
  have e : a ++ 10 :: r = (a ++ [10]) ++ r := by simp
  have hl : (a ++ [10]).length = a.length + 1 := by simp
  have q : linesF (k + 1) (a ++ 10 :: r) = (a ++ 10 :: r).take (nlN (a ++ 10 :: r)) :: linesF k ((a ++ 10 :: r).drop (nlN (a ++ 10 :: r))) := if_neg (by simp)
  rw [q, nlN_line a r h, e, ← hl, List.take_left, List.drop_left]

/-! ### the reading of a line -/
def bareL (s : List UInt8) : List UInt8 := Lib.trimSuffix s [10]
def sep32 : ByteArray := ⟨#[32]⟩
def bs (l : List UInt8) : ByteArray := ⟨l.toArray⟩
def fieldsL (s : List UInt8) : List ByteArray := Lib.splitB sep32 0 (Lib.countB (bs s) sep32) (bs s)
def numE (r : Lib.NumEnd Int) : Option Int := match r with
  | .ok v => some v
  | _ => none
def numsL : List ByteArray → Option (List Int)
  | [] => some []
  | p :: r => (numE (Lib.atoiAll p.data.toList)).bind fun v => (numsL r).map (v :: ·)
def stepF (w : ByteArray) (x : List Int) (st : Int × List Lk) : Option (Int × List Lk) :=
  if w = bs nodesW ∧ x.length = 1 then some (gi x 0, st.2)
  else if w = bs linkW ∧ x.length = 3 ∧ st.2.length ≤ 260 then some (st.1, st.2 ++ [⟨gi x 0, gi x 1, gi x 2⟩])
  else none
def rowF (row : List UInt8) (st : Int × List Lk) : Option (Int × List Lk) :=
  (numsL ((fieldsL (bareL row)).drop 1)).bind fun x => stepF ((fieldsL (bareL row)).headD (bs [])) x st
def runF : List (List UInt8) → Int × List Lk → Option (Int × List Lk)
  | [], st => some st
  | r :: rs, st => (rowF r st).bind (runF rs)
def parseF (s : List UInt8) : Option (Int × List Lk) := runF (linesF s.length s) (0, [])
theorem runF_snoc (pre : List (List UInt8)) (x : List UInt8) : ∀ st, runF (pre ++ [x]) st = (runF pre st).bind (rowF x) := by
  induction pre with
  | nil => intro st; show (rowF x st).bind (runF []) = rowF x st; cases rowF x st <;> rfl
  | cons r rs ih =>
    intro st
    show (rowF r st).bind (runF (rs ++ [x])) = ((rowF r st).bind (runF rs)).bind (rowF x)
    cases rowF r st with
    | none => rfl
    | some s => exact ih s
theorem runF_prefix {pre xs : List (List UInt8)} {st : Int × List Lk} (h : pre <+: xs) (hn : runF pre st = none) : runF xs st = none := by
  obtain ⟨r, rfl⟩ := h
  induction pre generalizing st with
  | nil => cases hn
  | cons a t ih =>
    show (rowF a st).bind (runF (t ++ r)) = none
    have h2 : (rowF a st).bind (runF t) = none := hn
    cases h3 : rowF a st with
    | none => rfl
    | some s => rw [h3] at h2; exact ih h2
theorem numsL_snoc (ps : List ByteArray) (p : ByteArray) : numsL (ps ++ [p]) = (numsL ps).bind fun xs => (numE (Lib.atoiAll p.data.toList)).map fun v => xs ++ [v] := by
  induction ps with
  | nil => show (numE _).bind _ = _; cases numE (Lib.atoiAll p.data.toList) <;> rfl
  | cons a t ih =>
    show (numE (Lib.atoiAll a.data.toList)).bind (fun v => (numsL (t ++ [p])).map (v :: ·)) = ((numE (Lib.atoiAll a.data.toList)).bind fun v => (numsL t).map (v :: ·)).bind _
    cases numE (Lib.atoiAll a.data.toList) with
    | none => rfl
    | some v =>
      show (numsL (t ++ [p])).map (v :: ·) = ((numsL t).map (v :: ·)).bind _
      rw [ih]
      cases numsL t with
      | none => rfl
      | some xs => cases numE (Lib.atoiAll p.data.toList) <;> rfl
theorem numsL_none {ps rs : List ByteArray} (h : numsL ps = none) : numsL (ps ++ rs) = none := by
  induction ps with
  | nil => cases h
  | cons a t ih =>
    have h2 : (numE (Lib.atoiAll a.data.toList)).bind (fun v => (numsL t).map (v :: ·)) = none := h
    show (numE (Lib.atoiAll a.data.toList)).bind (fun v => (numsL (t ++ rs)).map (v :: ·)) = none
    cases h3 : numE (Lib.atoiAll a.data.toList) with
    | none => rfl
    | some v =>
      rw [h3] at h2
      have h4 : numsL t = none := by
        cases h5 : numsL t with
        | none => rfl
        | some x => simp [h5] at h2
      simp [ih h4]
theorem numsL_len {ps : List ByteArray} : ∀ {xs : List Int}, numsL ps = some xs → xs.length = ps.length := by
  induction ps with
  | nil => intro xs h; cases h; rfl
  | cons a t ih =>
    intro xs h
    have h2 : (numE (Lib.atoiAll a.data.toList)).bind (fun v => (numsL t).map (v :: ·)) = some xs := h
    cases h3 : numE (Lib.atoiAll a.data.toList) with
    | none => rw [h3] at h2; cases h2
    | some v =>
      rw [h3] at h2
      cases h5 : numsL t with
      | none => simp [h5] at h2
      | some y =>
        simp [h5] at h2
        subst h2
        simp [ih h5]

/-! ### a line that was printed is read -/
theorem index_at (a r : List UInt8) (h : (32 : UInt8) ∉ a) : Lib.index (a ++ 32 :: r) [32] = a.length := by
  refine Lib.index_first (by simp) ?_ ?_
  · simp [Lib.occAt]
  · intro j hj
    unfold Lib.occAt
    rw [List.drop_append_of_le_length (by omega)]
    cases hd : a.drop j with
    | nil => simp at hd; omega
    | cons x t =>
      have hx : x ∈ a := List.mem_of_mem_drop (by rw [hd]; exact List.mem_cons_self)
      have : x ≠ 32 := fun e => h (e ▸ hx)
      simp [List.isPrefixOf, Ne.symm this]
theorem index_none (a : List UInt8) (h : (32 : UInt8) ∉ a) : Lib.index a [32] = -1 := by
  induction a with
  | nil => rfl
  | cons x t ih =>
    have h1 : x ≠ 32 := fun e => h (by rw [e]; exact List.mem_cons_self)
    have h2 := ih (fun hm => h (List.mem_cons_of_mem _ hm))
    unfold Lib.index
    rw [if_neg (by simp [List.isPrefixOf, Ne.symm h1]), h2]
    rfl
theorem ba_ext {a b : ByteArray} (h : a.data.toList = b.data.toList) : a = b := by
  apply ByteArray.ext
  exact Array.ext' h
theorem split_step (a r : List UInt8) (h : (32 : UInt8) ∉ a) : Lib.countB (bs (a ++ 32 :: r)) sep32 = 1 + Lib.countB (bs r) sep32 ∧ ∀ k, Lib.splitB sep32 0 (k + 1) (bs (a ++ 32 :: r)) = bs a :: Lib.splitB sep32 0 k (bs r) := by
  have hi : Lib.indexB (bs (a ++ 32 :: r)) sep32 = a.length := index_at a r h
  have he : (bs (a ++ 32 :: r)).extract (a.length + sep32.size) (bs (a ++ 32 :: r)).size = bs r := by
    apply ba_ext
    rw [Lib.extract_to_end]
    show List.drop (a.length + 1) (a ++ 32 :: r) = r
    rw [show a ++ 32 :: r = (a ++ [32]) ++ r by simp]
    rw [List.drop_left' (by simp)]
  refine ⟨by rw [Lib.countB_hit _ _ _ (by decide) hi, he], fun k => ?_⟩
  rw [Lib.splitB_hit _ _ _ _ _ hi, he]
  congr 1
  apply ba_ext
  rw [Lib.extract_from_zero]
  show List.take (a.length + 0) (a ++ 32 :: r) = a
  simp
theorem fields_step (a r : List UInt8) (h : (32 : UInt8) ∉ a) : fieldsL (a ++ 32 :: r) = bs a :: fieldsL r := by
  obtain ⟨h1, h2⟩ := split_step a r h
  unfold fieldsL
  rw [h1, Nat.add_comm, h2]
theorem fields_end (a : List UInt8) (h : (32 : UInt8) ∉ a) : fieldsL a = [bs a] := by
  unfold fieldsL
  rw [show Lib.countB (bs a) sep32 = 0 from Lib.countB_miss _ _ (index_none a h)]
  rfl
theorem fields_nums : ∀ (l : List Int) (w : List UInt8), (32 : UInt8) ∉ w → fieldsL (w ++ numsB l) = bs w :: l.map fun n => bs (Lib.itoa n)
  | [], w, h => by simpa [numsB] using fields_end w h
  | n :: t, w, h => by
    have e : w ++ numsB (n :: t) = w ++ 32 :: (Lib.itoa n ++ numsB t) := by simp [numsB]
    rw [e, fields_step w _ h, fields_nums t _ (itoa_no32 n)]
    rfl
theorem nums_itoa (l : List Int) (h : ∀ n ∈ l, Small n) : numsL (l.map fun n => bs (Lib.itoa n)) = some l := by
  induction l with
  | nil => rfl
  | cons n t ih =>
    show (numE (Lib.atoiAll (Lib.itoa n))).bind (fun v => (numsL (t.map fun n => bs (Lib.itoa n))).map (v :: ·)) = _
    rw [itoa_atoi (h n List.mem_cons_self), ih fun n hn => h n (List.mem_cons_of_mem _ hn)]
    rfl
theorem bare_line (a : List UInt8) : bareL (a ++ [10]) = a := by
  unfold bareL Lib.trimSuffix Lib.hasSuffix
  rw [if_pos (by rw [List.isSuffixOf_iff_suffix]; exact List.suffix_append _ _)]
  simp
theorem row_line (w : List UInt8) (l : List Int) (st : Int × List Lk) (hw : (32 : UInt8) ∉ w) (h : ∀ n ∈ l, Small n) : rowF (lineN w l) st = stepF (bs w) l st := by
  unfold rowF lineN
  rw [bare_line, fields_nums l w hw]
  show (numsL (l.map fun n => bs (Lib.itoa n))).bind _ = _
  rw [nums_itoa l h]
  rfl
theorem line_no10 (w : List UInt8) (l : List Int) (hw : (10 : UInt8) ∉ w) : (10 : UInt8) ∉ w ++ numsB l := by
  intro h
  rcases List.mem_append.1 h with h | h
  · exact hw h
  · unfold numsB at h
    obtain ⟨n, _, h⟩ := List.mem_flatMap.1 h
    rcases List.mem_cons.1 h with h | h
    · exact absurd h (by decide)
    · exact itoa_no10 n h
theorem run_links : ∀ (l : List Lk) (st : Int × List Lk) (k : Nat), (∀ x ∈ l, Small x.a ∧ Small x.b ∧ Small x.m) → st.2.length + l.length ≤ 261 → (l.flatMap lkL).length ≤ k → runF (linesF k (l.flatMap lkL)) st = some (st.1, st.2 ++ l)
  | [], st, k, _, _, _ => by cases k <;> simp [linesF, runF]
  | x :: t, st, k, h, hl, hk => by
    have hx := h x List.mem_cons_self
    have e : (x :: t).flatMap lkL = (linkW ++ numsB [x.a, x.b, x.m]) ++ 10 :: t.flatMap lkL := by simp [lkL, lineN]
    rw [e] at hk ⊢
    simp only [List.length_append, List.length_cons] at hk hl
    obtain ⟨k, rfl⟩ : ∃ j, k = j + 1 := ⟨k - 1, by omega⟩
    rw [linesF_line k _ _ (line_no10 _ _ (by decide))]
    show (rowF (lineN linkW [x.a, x.b, x.m]) st).bind (runF (linesF k (t.flatMap lkL))) = _
    rw [row_line _ _ _ (by decide) (by
      intro n hn
      simp at hn
      rcases hn with rfl | rfl | rfl
      · exact hx.1
      · exact hx.2.1
      · exact hx.2.2)]
    have hs : stepF (bs linkW) [x.a, x.b, x.m] st = some (st.1, st.2 ++ [x]) := by
      unfold stepF
      rw [if_neg (fun h => absurd h.2 (by simp)), if_pos ⟨rfl, rfl, by omega⟩]
      rfl
    rw [hs]
    show runF (linesF k (t.flatMap lkL)) (st.1, st.2 ++ [x]) = _
    rw [run_links t _ k (fun y hy => h y (List.mem_cons_of_mem _ hy)) (by simp; omega) (by omega)]
    simp
theorem parse_print {N : Int} {l : List Lk} (h : NetOk N l) : parseF (printL N l) = some (N, l) := by
  obtain ⟨h1, h2⟩ := h.small
  have h3 := h.l1
  have e : printL N l = (nodesW ++ numsB [N]) ++ 10 :: l.flatMap lkL := by simp [printL, lineN]
  unfold parseF
  obtain ⟨k, hk⟩ : ∃ k, (printL N l).length = k + 1 := ⟨(printL N l).length - 1, by rw [e]; simp; omega⟩
  rw [hk]
  have hk2 : (l.flatMap lkL).length ≤ k := by
    rw [e] at hk
    simp only [List.length_append, List.length_cons] at hk
    omega
  rw [e, linesF_line k _ _ (line_no10 _ _ (by decide))]
  show (rowF (lineN nodesW [N]) (0, [])).bind (runF (linesF k (l.flatMap lkL))) = _
  rw [row_line _ _ _ (by decide) (by
    intro n hn
    simp at hn
    subst hn
    exact h1)]
  have hs : stepF (bs nodesW) [N] (0, []) = some (N, []) := by
    unfold stepF
    rw [if_pos ⟨rfl, rfl⟩]
    rfl
  rw [hs]
  show runF (linesF k (l.flatMap lkL)) (N, []) = _
  rw [run_links l _ k h2 (by simp; omega) hk2]
  simp
theorem print_inj {N M : Int} {l m : List Lk} (h : NetOk N l) (h' : NetOk M m) (e : printL N l = printL M m) : N = M ∧ l = m := by
  have h1 := parse_print h
  rw [e, parse_print h'] at h1
  injection h1 with h1
  injection h1 with h1 h2
  exact ⟨h1.symm, h2.symm⟩

/-! ### the reference's reading -/
def digF : List UInt8 → Int → Int × Nat
  | [], n => (n, 0)
  | c :: r, n => if 48 ≤ c.toNat ∧ c.toNat ≤ 57 then ((digF r (min (10 * n + ((c.toNat : Int) - 48)) 1099511627776)).1, (digF r (min (10 * n + ((c.toNat : Int) - 48)) 1099511627776)).2 + 1) else (n, 0)
def numP (s : List UInt8) (a : Nat) : Int × Nat :=
  if (s.drop a).head? = some 45 then (-(digF (s.drop (a + 1)) 0).1, a + 1 + (digF (s.drop (a + 1)) 0).2) else ((digF (s.drop a) 0).1, a + (digF (s.drop a) 0).2)
theorem digF_read : ∀ (l : List UInt8) (R : List UInt8) (n v : Nat), Lib.decFrom n l = some v → v ≤ 1099511627776 → (∀ c r, R = c :: r → ¬ (48 ≤ c.toNat ∧ c.toNat ≤ 57)) → digF (l ++ R) n = ((v : Int), l.length)
  | [], R, n, v, h, _, hR => by
    simp only [Lib.decFrom] at h
    injection h with h
    subst h
    cases R with
    | nil => rfl
    | cons c r =>
      show (if _ then _ else _) = _
      rw [if_neg (hR c r rfl)]
      rfl
  | c :: l, R, n, v, h, hv, hR => by
    unfold Lib.decFrom at h
    cases hd : Lib.digitVal c with
    | none => rw [hd] at h; cases h
    | some d =>
      rw [hd] at h
      have h1 : 48 ≤ c.toNat ∧ c.toNat ≤ 57 ∧ d = c.toNat - 48 := by
        unfold Lib.digitVal at hd
        split at hd
        · injection hd with hd
          omega
        · cases hd
      have hg := decFrom_ge l _ v h
      rw [List.cons_append]
      have e : min (10 * (n : Int) + ((c.toNat : Int) - 48)) 1099511627776 = ((n * 10 + d : Nat) : Int) := by omega
      show (if _ then _ else _) = _
      rw [if_pos ⟨h1.1, h1.2.1⟩, e, digF_read l R _ v h hv hR]
      simp
theorem numP_read (A R : List UInt8) (n : Int) (h : Small n) (hR : ∀ c r, R = c :: r → ¬ (48 ≤ c.toNat ∧ c.toNat ≤ 57)) : numP (A ++ (Lib.itoa n ++ R)) A.length = (n, A.length + (Lib.itoa n).length) := by
  obtain ⟨h1, h2⟩ := h
  unfold numP
  rw [List.drop_left]
  unfold Lib.itoa
  by_cases hn : n < 0
  · rw [if_pos hn, if_pos (by simp)]
    rw [show A ++ (45 :: Lib.decDigits n.natAbs ++ R) = (A ++ [45]) ++ (Lib.decDigits n.natAbs ++ R) by simp, show A.length + 1 = (A ++ [45]).length by simp, List.drop_left, show digF (Lib.decDigits n.natAbs ++ R) 0 = _ from digF_read _ R 0 n.natAbs (decFrom_dd _) (by omega) hR]
    simp
    omega
  · rw [if_neg hn]
    rw [if_neg (by
      cases hl : Lib.decDigits n.toNat with
      | nil => exact absurd hl (dd_ne _)
      | cons b r =>
        have hb := dd_dig n.toNat b (by rw [hl]; exact List.mem_cons_self)
        simp
        rintro rfl
        exact absurd hb.1 (by decide))]
    have := digF_read _ R 0 n.toNat (decFrom_dd n.toNat) (by omega) hR
    simp only [Int.ofNat_zero, Int.cast_ofNat_Int] at this
    rw [this]
    simp
    omega
def rlinks (s : List UInt8) : Nat → Nat → List Lk → List Lk
  | 0, _, l => l
  | f + 1, a, l => if a < s.length ∧ l.length ≤ 260 then rlinks s f ((numP s ((numP s ((numP s (a + 5)).2 + 1)).2 + 1)).2 + 1) (l ++ [⟨(numP s (a + 5)).1, (numP s ((numP s (a + 5)).2 + 1)).1, (numP s ((numP s ((numP s (a + 5)).2 + 1)).2 + 1)).1⟩]) else l
def refL (s : List UInt8) : List Lk := rlinks s 261 ((numP s 6).2 + 1) []
theorem no_digit {c : UInt8} (h : c = 32 ∨ c = 10) {c' : UInt8} {r r' : List UInt8} (e : c :: r = c' :: r') : ¬ (48 ≤ c'.toNat ∧ c'.toNat ≤ 57) := by
  injection e with e _
  subst e
  rcases h with rfl | rfl <;> decide
theorem rlinks_read (s : List UInt8) : ∀ (t : List Lk) (f : Nat) (A : List UInt8) (l : List Lk), s = A ++ t.flatMap lkL → (∀ k ∈ t, Small k.a ∧ Small k.b ∧ Small k.m) → t.length ≤ f → l.length + t.length ≤ 260 → rlinks s f A.length l = l ++ t
  | [], f, A, l, hs, _, _, _ => by
    cases f with
    | zero => simp [rlinks]
    | succ f =>
      unfold rlinks
      rw [if_neg (by rw [hs]; simp)]
      simp
  | k :: t, f, A, l, hs, hk, hf, hl => by
    obtain ⟨f, rfl⟩ : ∃ j, f = j + 1 := ⟨f - 1, by simp at hf; omega⟩
    obtain ⟨k1, k2, k3⟩ := hk k List.mem_cons_self
    have hs2 : s = A ++ (linkW ++ 32 :: (Lib.itoa k.a ++ 32 :: (Lib.itoa k.b ++ 32 :: (Lib.itoa k.m ++ 10 :: t.flatMap lkL)))) := by rw [hs]; simp [lkL, lineN, numsB]
    have q1 : numP s (A.length + 5) = (k.a, A.length + 5 + (Lib.itoa k.a).length) := by
      have := numP_read (A ++ linkW ++ [32]) (32 :: (Lib.itoa k.b ++ 32 :: (Lib.itoa k.m ++ 10 :: t.flatMap lkL))) k.a k1 (fun c r e => no_digit (.inl rfl) e)
      rw [show A ++ linkW ++ [32] ++ (Lib.itoa k.a ++ 32 :: (Lib.itoa k.b ++ 32 :: (Lib.itoa k.m ++ 10 :: t.flatMap lkL))) = s by rw [hs2]; simp, show (A ++ linkW ++ [32] : List UInt8).length = A.length + 5 by simp [linkW]] at this
      exact this
    have q2 : numP s (A.length + 5 + (Lib.itoa k.a).length + 1) = (k.b, A.length + 5 + (Lib.itoa k.a).length + 1 + (Lib.itoa k.b).length) := by
      have := numP_read (A ++ linkW ++ [32] ++ Lib.itoa k.a ++ [32]) (32 :: (Lib.itoa k.m ++ 10 :: t.flatMap lkL)) k.b k2 (fun c r e => no_digit (.inl rfl) e)
      rw [show A ++ linkW ++ [32] ++ Lib.itoa k.a ++ [32] ++ (Lib.itoa k.b ++ 32 :: (Lib.itoa k.m ++ 10 :: t.flatMap lkL)) = s by rw [hs2]; simp, show (A ++ linkW ++ [32] ++ Lib.itoa k.a ++ [32] : List UInt8).length = A.length + 5 + (Lib.itoa k.a).length + 1 by simp [linkW]; omega] at this
      exact this
    have q3 : numP s (A.length + 5 + (Lib.itoa k.a).length + 1 + (Lib.itoa k.b).length + 1) = (k.m, A.length + 5 + (Lib.itoa k.a).length + 1 + (Lib.itoa k.b).length + 1 + (Lib.itoa k.m).length) := by
      have := numP_read (A ++ linkW ++ [32] ++ Lib.itoa k.a ++ [32] ++ Lib.itoa k.b ++ [32]) (10 :: t.flatMap lkL) k.m k3 (fun c r e => no_digit (.inr rfl) e)
      rw [show A ++ linkW ++ [32] ++ Lib.itoa k.a ++ [32] ++ Lib.itoa k.b ++ [32] ++ (Lib.itoa k.m ++ 10 :: t.flatMap lkL) = s by rw [hs2]; simp, show (A ++ linkW ++ [32] ++ Lib.itoa k.a ++ [32] ++ Lib.itoa k.b ++ [32] : List UInt8).length = A.length + 5 + (Lib.itoa k.a).length + 1 + (Lib.itoa k.b).length + 1 by simp [linkW]; omega] at this
      exact this
    unfold rlinks
    simp only [List.length_cons] at hl hf
    rw [if_pos ⟨by rw [hs2]; simp; omega, by omega⟩, q1]
    simp only
    rw [q2]
    simp only
    rw [q3]
    simp only
    have := rlinks_read s t f (A ++ lkL k) (l ++ [k]) (by rw [hs]; simp) (fun y hy => hk y (List.mem_cons_of_mem _ hy)) (by omega) (by simp; omega)
    rw [show (A ++ lkL k : List UInt8).length = A.length + 5 + (Lib.itoa k.a).length + 1 + (Lib.itoa k.b).length + 1 + (Lib.itoa k.m).length + 1 by simp [lkL, lineN, numsB, linkW]; omega] at this
    rw [this]
    simp
theorem ref_print {N : Int} {l : List Lk} (h : NetOk N l) : (numP (printL N l) 6).1 = N ∧ refL (printL N l) = l := by
  obtain ⟨h1, h2⟩ := h.small
  have h3 := h.l1
  have e : printL N l = (nodesW ++ [32]) ++ (Lib.itoa N ++ 10 :: l.flatMap lkL) := by simp [printL, lineN, numsB]
  have q := numP_read (nodesW ++ [32]) (10 :: l.flatMap lkL) N h1 (fun c r e => no_digit (.inr rfl) e)
  rw [← e, show (nodesW ++ [32] : List UInt8).length = 6 from rfl] at q
  refine ⟨by rw [q], ?_⟩
  unfold refL
  rw [q]
  simp only
  have := rlinks_read (printL N l) l 261 (nodesW ++ [32] ++ Lib.itoa N ++ [10]) [] (by rw [e]; simp) h2 (by omega) (by simp; omega)
  rw [show (nodesW ++ [32] ++ Lib.itoa N ++ [10] : List UInt8).length = 6 + (Lib.itoa N).length + 1 by simp [nodesW]; omega] at this
  rw [this]
  simp

/-! ### what a text says -/
/-- r is the net of the text L, or there is none. -/
def Reads (L : List UInt8) (r : Option (Int × List Lk)) : Prop := (∀ N l, r = some (N, l) → NetOk N l ∧ printL N l = L) ∧ (r = none → ∀ N l, NetOk N l → printL N l ≠ L)
theorem reads_ex (L : List UInt8) : ∃ r, Reads L r := by
  by_cases h : ∃ N l, NetOk N l ∧ printL N l = L
  · obtain ⟨N, l, h1, h2⟩ := h
    exact ⟨some (N, l), And.intro (fun M m e => by cases e; exact ⟨h1, h2⟩) (fun e => by cases e)⟩
  · exact ⟨none, And.intro (fun M m e => by cases e) (fun _ N l h1 h2 => h ⟨N, l, h1, h2⟩)⟩
theorem reads_yes {L : List UInt8} {r : Option (Int × List Lk)} {N : Int} {l : List Lk} (h : Reads L r) (ho : NetOk N l) (hp : printL N l = L) : r = some (N, l) := by
  cases r with
  | none => exact absurd hp (h.2 rfl N l ho)
  | some x =>
    obtain ⟨M, m⟩ := x
    obtain ⟨h1, h2⟩ := h.1 M m rfl
    obtain ⟨rfl, rfl⟩ := print_inj h1 ho (h2.trans hp.symm)
    rfl
theorem reads_no {L : List UInt8} {r : Option (Int × List Lk)} (h : Reads L r) (hn : ∀ N l, NetOk N l → printL N l ≠ L) : r = none := by
  cases r with
  | none => rfl
  | some x =>
    obtain ⟨M, m⟩ := x
    obtain ⟨h1, h2⟩ := h.1 M m rfl
    exact absurd h2 (hn M m h1)
end Go.Proofs.YtmhiiomejopaoaaGreatDoor
