/-
  Plain lists of rows: where a row stands, which rows bear a predicate or an id, which rows may be. No condition beyond those that each lemma states.
-/
namespace Go.Proofs.Ytmkoejpdoeblkaa.Pl

def at' (l : List Int) (j : Nat) : Int := l.getD j 0
theorem at_eq {l : List Int} {j : Nat} (h : j < l.length) : at' l j = l[j] := by simp [at', List.getD, h]
theorem at_out {l : List Int} {j : Nat} (h : l.length ≤ j) : at' l j = 0 := by simp [at', List.getD, h]
theorem at_some {l : List Int} {j : Nat} (h : j < l.length) : l[j]? = some (at' l j) := by rw [at_eq h]; exact List.getElem?_eq_getElem h

/-- A row: its predicate, its ids. -/
abbrev Rw := Int × List Int
/-- The places, from n on, of the rows that q picks. -/
def pickFrom (q : Rw → Bool) : Nat → List Rw → List Int
  | _, [] => []
  | n, r :: t => if q r then (n : Int) :: pickFrom q (n + 1) t else pickFrom q (n + 1) t
def pick (q : Rw → Bool) (l : List Rw) : List Int := pickFrom q 0 l
theorem pickFrom_snoc (q : Rw → Bool) (r : Rw) : ∀ (n : Nat) (l : List Rw), pickFrom q n (l ++ [r]) = pickFrom q n l ++ if q r then [((n + l.length : Nat) : Int)] else []
  | n, [] => by simp only [List.nil_append, pickFrom, List.length_nil, Nat.add_zero]
  | n, x :: t => by
    have ih := pickFrom_snoc q r (n + 1) t
    have e : n + 1 + t.length = n + (x :: t).length := by simp only [List.length_cons]; omega
    simp only [List.cons_append, pickFrom, ih, e]
    split <;> simp
theorem pick_snoc (q : Rw → Bool) (r : Rw) (l : List Rw) : pick q (l ++ [r]) = pick q l ++ if q r then [(l.length : Int)] else [] := by
  have := pickFrom_snoc q r 0 l
  simpa [pick] using this
theorem pick_snoc_in {q : Rw → Bool} {r : Rw} {l : List Rw} (h : q r = true) : pick q (l ++ [r]) = pick q l ++ [(l.length : Int)] := by rw [pick_snoc, h]; rfl
theorem pick_snoc_out {q : Rw → Bool} {r : Rw} {l : List Rw} (h : q r = false) : pick q (l ++ [r]) = pick q l := by rw [pick_snoc, h]; simp
theorem pickFrom_len (q : Rw → Bool) : ∀ (n : Nat) (l : List Rw), (pickFrom q n l).length ≤ l.length
  | _, [] => by simp [pickFrom]
  | n, r :: t => by
    have := pickFrom_len q (n + 1) t
    simp only [pickFrom, List.length_cons]
    split
    · simp only [List.length_cons]; omega
    · omega
theorem pick_len (q : Rw → Bool) (l : List Rw) : (pick q l).length ≤ l.length := pickFrom_len q 0 l
theorem pickFrom_bound (q : Rw → Bool) : ∀ (n : Nat) (l : List Rw), ∀ x ∈ pickFrom q n l, (n : Int) ≤ x ∧ x < ((n + l.length : Nat) : Int)
  | n, [], x, h => by simp [pickFrom] at h
  | n, r :: t, x, h => by
    simp only [pickFrom] at h
    have hr : x ∈ pickFrom q (n + 1) t → (n : Int) ≤ x ∧ x < ((n + (r :: t).length : Nat) : Int) := fun hx => by
      have := pickFrom_bound q (n + 1) t x hx
      simp only [List.length_cons]; omega
    split at h
    · rcases List.mem_cons.1 h with rfl | h
      · simp only [List.length_cons]; omega
      · exact hr h
    · exact hr h
theorem pick_bound {q : Rw → Bool} {l : List Rw} {x : Int} (h : x ∈ pick q l) : 0 ≤ x ∧ x < (l.length : Int) := by
  have := pickFrom_bound q 0 l x h
  simpa using this
/-- A choice among what was chosen. -/
theorem pickFrom_filter (q q2 : Rw → Bool) (p : Int → Bool) : ∀ (n : Nat) (l : List Rw), (∀ (j : Nat) r, l[j]? = some r → q r = true → p ((n + j : Nat) : Int) = q2 r) → (∀ r, q2 r = true → q r = true) →
    (pickFrom q n l).filter p = pickFrom q2 n l
  | _, [], _, _ => rfl
  | n, r :: t, h, h2 => by
    have ih := pickFrom_filter q q2 p (n + 1) t (fun j s hs hq => by
      have := h (j + 1) s (by simpa using hs) hq
      rwa [show n + (j + 1) = n + 1 + j by omega] at this) h2
    have h0 := h 0 r rfl
    simp only [Nat.add_zero] at h0
    simp only [pickFrom]
    by_cases hq : q r = true
    · rw [if_pos hq, List.filter_cons, h0 hq, ih]
    · rw [if_neg hq, ih, if_neg (fun e => hq (h2 r e))]
theorem pick_filter {q q2 : Rw → Bool} {p : Int → Bool} {l : List Rw} (h : ∀ (j : Nat) r, l[j]? = some r → q r = true → p (j : Int) = q2 r) (h2 : ∀ r, q2 r = true → q r = true) : (pick q l).filter p = pick q2 l :=
  pickFrom_filter q q2 p 0 l (fun j r hj hq => by simpa using h j r hj hq) h2

/-- Where a row stands. -/
def idxFrom (r : Rw) : Nat → List Rw → Option Nat
  | _, [] => none
  | n, x :: t => if x = r then some n else idxFrom r (n + 1) t
def idx (l : List Rw) (r : Rw) : Option Nat := idxFrom r 0 l
theorem idxFrom_snoc (r x : Rw) : ∀ (n : Nat) (l : List Rw), idxFrom r n (l ++ [x]) = (idxFrom r n l).or (if x = r then some (n + l.length) else none)
  | n, [] => by simp [idxFrom]
  | n, y :: t => by
    have ih := idxFrom_snoc r x (n + 1) t
    have e : n + 1 + t.length = n + (y :: t).length := by simp only [List.length_cons]; omega
    simp only [List.cons_append, idxFrom, ih, e]
    split <;> simp
theorem idx_snoc (l : List Rw) (r x : Rw) : idx (l ++ [x]) r = (idx l r).or (if x = r then some l.length else none) := by
  have := idxFrom_snoc r x 0 l
  simpa [idx] using this
theorem idxFrom_none {r : Rw} : ∀ {n : Nat} {l : List Rw}, idxFrom r n l = none ↔ r ∉ l
  | _, [] => by simp [idxFrom]
  | n, x :: t => by
    simp only [idxFrom, List.mem_cons, not_or]
    split
    · rename_i h; simp [h]
    · rename_i h; rw [idxFrom_none]; simp [Ne.symm h]
theorem idx_none {l : List Rw} {r : Rw} : idx l r = none ↔ r ∉ l := idxFrom_none
theorem idxFrom_lt {r : Rw} : ∀ {n : Nat} {l : List Rw} {i : Nat}, idxFrom r n l = some i → n ≤ i ∧ i < n + l.length
  | _, [], _, h => by simp [idxFrom] at h
  | n, x :: t, i, h => by
    simp only [idxFrom] at h
    split at h
    · have := Option.some.inj h; subst this; simp only [List.length_cons]; omega
    · have := idxFrom_lt h; simp only [List.length_cons]; omega
theorem idx_lt {l : List Rw} {r : Rw} {i : Nat} (h : idx l r = some i) : i < l.length := by have := (idxFrom_lt h).2; simpa using this
theorem idx_new {l : List Rw} {r : Rw} (h : r ∉ l) : idx (l ++ [r]) r = some l.length := by rw [idx_snoc, idx_none.2 h]; simp
theorem idx_other {l : List Rw} {r x : Rw} (h : x ≠ r) : idx (l ++ [x]) r = idx l r := by rw [idx_snoc, if_neg h]; simp
def rowNo (l : List Rw) (r : Rw) : Int := match idx l r with | some i => i | none => -1
theorem rowNo_neg {l : List Rw} {r : Rw} : rowNo l r < 0 ↔ r ∉ l := by
  unfold rowNo
  cases h : idx l r with
  | none => simp [idx_none.1 h]
  | some i =>
    simp only
    constructor
    · intro h2; omega
    · intro h2; rw [idx_none.2 h2] at h; cases h
theorem rowNo_ge {l : List Rw} {r : Rw} : 0 ≤ rowNo l r ↔ r ∈ l := by
  have := @rowNo_neg l r
  constructor
  · intro h; exact Decidable.byContradiction fun h2 => by have := this.2 h2; omega
  · intro h; exact Decidable.byContradiction fun h2 => this.1 (by omega) h
theorem rowNo_bound (l : List Rw) (r : Rw) : -1 ≤ rowNo l r ∧ rowNo l r < l.length + 1 := by
  unfold rowNo
  cases h : idx l r with
  | none => simp; omega
  | some i => have := idx_lt h; simp only; omega
/-- Step by step. -/
theorem idxFrom_split {r : Rw} : ∀ {n : Nat} {l : List Rw} (i : Nat), r ∉ l.take i → l[i]? = some r → idxFrom r n l = some (n + i)
  | n, [], i, _, h => by simp at h
  | n, x :: t, 0, _, h => by simp at h; simp [idxFrom, h]
  | n, x :: t, i + 1, h1, h2 => by
    simp only [List.take_succ_cons, List.mem_cons, not_or] at h1
    simp only [idxFrom]
    rw [if_neg (Ne.symm h1.1), idxFrom_split (n := n + 1) i h1.2 (by simpa using h2)]
    congr 1; omega
theorem rowNo_at {l : List Rw} {r : Rw} {i : Nat} (h1 : r ∉ l.take i) (h2 : l[i]? = some r) : rowNo l r = i := by
  unfold rowNo idx
  rw [idxFrom_split i h1 h2]; simp

/-- What is new of the rows that come, each once. -/
def add : List Rw → List Rw → List Rw
  | l, [] => l
  | l, r :: rs => if r ∈ l then add l rs else add (l ++ [r]) rs
theorem add_snoc : ∀ (l rs : List Rw) (r : Rw), add l (rs ++ [r]) = if r ∈ add l rs then add l rs else add l rs ++ [r]
  | l, [], r => by by_cases h : r ∈ l <;> simp [add, h]
  | l, x :: rs, r => by
    simp only [List.cons_append, add]
    split
    · exact add_snoc l rs r
    · exact add_snoc _ rs r
theorem add_len : ∀ (l rs : List Rw), l.length ≤ (add l rs).length ∧ (add l rs).length ≤ l.length + rs.length
  | l, [] => by simp [add]
  | l, r :: rs => by
    have h1 := add_len l rs
    have h2 := add_len (l ++ [r]) rs
    simp only [add, List.length_cons]
    split
    · omega
    · simp only [List.length_append, List.length_cons, List.length_nil] at h2; omega
theorem add_pre : ∀ (l rs : List Rw), (add l rs).take l.length = l
  | l, [] => by simp [add]
  | l, r :: rs => by
    simp only [add]
    split
    · exact add_pre l rs
    · have := add_pre (l ++ [r]) rs
      have h2 : l = ((add (l ++ [r]) rs).take (l ++ [r]).length).take l.length := by rw [this]; simp
      rw [List.take_take] at h2
      simp only [List.length_append, List.length_cons, List.length_nil] at h2
      rw [Nat.min_eq_left (by omega)] at h2
      exact h2.symm

/-- May a row be, over these arities? -/
def fitsB (A : List Int) (r : Rw) : Bool := decide (0 ≤ r.1 ∧ r.1 < A.length ∧ (r.2.length : Int) = at' A r.1.toNat) && r.2.all (fun a => decide (0 ≤ a))
theorem fits_iff {A : List Int} {r : Rw} : fitsB A r = true ↔ (0 ≤ r.1 ∧ r.1 < A.length ∧ (r.2.length : Int) = at' A r.1.toNat) ∧ ∀ j, j < r.2.length → 0 ≤ at' r.2 j := by
  unfold fitsB
  rw [Bool.and_eq_true, decide_eq_true_eq, List.all_eq_true]
  refine and_congr Iff.rfl ⟨fun h j hj => ?_, fun h a ha => ?_⟩
  · have := h _ (List.getElem_mem hj); rw [at_eq hj]; simpa using this
  · obtain ⟨j, hj, rfl⟩ := List.getElem_of_mem ha
    have := h j hj; rw [at_eq hj] at this; simpa using this
def mayB (A : List Int) (rs : List Rw) : Bool := rs.all (fitsB A)
/-- Are the arities allowed? -/
def okA (A : List Int) : Bool := decide (A.length ≤ 128) && A.all (fun a => decide (0 ≤ a ∧ a ≤ 8))
theorem okA_at {A : List Int} (h : okA A = true) (j : Nat) : 0 ≤ at' A j ∧ at' A j ≤ 8 := by
  unfold okA at h
  rw [Bool.and_eq_true, List.all_eq_true] at h
  by_cases hj : j < A.length
  · have := h.2 _ (List.getElem_mem hj); rw [at_eq hj]; simpa using this
  · rw [at_out (by omega)]; omega
theorem fits_len {A : List Int} {r : Rw} (hA : okA A = true) (h : fitsB A r = true) : r.2.length ≤ 8 := by
  have h1 := (fits_iff.1 h).1.2.2
  have := okA_at hA r.1.toNat
  omega
/-- Rows of one predicate that fit and have the same ids at all places are one. -/
theorem fits_ext {A : List Int} {r s : Rw} (hr : fitsB A r = true) (hs : fitsB A s = true) (hA : okA A = true) (h0 : r.1 = s.1) (h : ∀ j, j < 8 → at' r.2 j = at' s.2 j) : r = s := by
  have h1 := (fits_iff.1 hr).1.2.2
  have h2 := (fits_iff.1 hs).1.2.2
  have h3 := okA_at hA r.1.toNat
  rw [← h0] at h2
  obtain ⟨p, a⟩ := r
  obtain ⟨q, b⟩ := s
  simp only at h0 h1 h2 h h3
  subst h0
  congr 1
  refine List.ext_getElem (by omega) (fun j hj1 hj2 => ?_)
  have := h j (by omega)
  rwa [at_eq hj1, at_eq hj2] at this
end Go.Proofs.Ytmkoejpdoeblkaa.Pl
