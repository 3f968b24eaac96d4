/-
  Plain laws of shapes, on: which rows fit, which shape covers another, and that the loosest row of a shape decides. No program is in sight here; no condition beyond those that each lemma states.
-/
import Derived.Test.YtlandkindbmbfaaPlain
namespace Go.Proofs.Ytlandkindbmbfaa.Plain

theorem at_mem {l : List Int} {i : Nat} (h : i < l.length) : at' l i ∈ l := by
  unfold at'; rw [List.getElem?_eq_getElem h]; exact List.getElem_mem h
theorem at_push_old {l : List Int} {x : Int} {j : Nat} (h : j < l.length) : at' (l ++ [x]) j = at' l j := by
  unfold at'; rw [List.getElem?_append_left h]
theorem at_push_new (l : List Int) (x : Int) : at' (l ++ [x]) l.length = x := by
  unfold at'; simp

/-! ### Fits and Covers -/
def fitAt (c row : List Int) (i : Nat) : Bool := at' row i == (if at' c i < 0 then at' row (-1 - at' c i).toNat else at' c i)
def fitsB (s : Shp) (pred : Int) (row : List Int) : Bool := validB s && (decide (pred = s.pred) && (decide (row.length = s.cells.length) && (List.range row.length).all (fitAt s.cells row)))
def covAt (a b : List Int) (i : Nat) : Bool := at' b i == (if at' a i < 0 then at' b (-1 - at' a i).toNat else at' a i)
def coversB (a b : Shp) : Bool := validB a && (validB b && (decide (a.pred = b.pred) && (decide (a.cells.length = b.cells.length) && (List.range a.cells.length).all (covAt a.cells b.cells))))

def AllTo (f : Nat → Bool) (k : Nat) : Prop := ∀ i, i < k → f i = true
theorem AllTo.start (f : Nat → Bool) : AllTo f 0 := fun i h => by omega
theorem AllTo.round {f : Nat → Bool} {k : Nat} (h : AllTo f k) (hk : f k = true) : AllTo f (k + 1) := fun i hi => by
  by_cases e : i = k
  · subst e; exact hk
  · exact h i (by omega)
theorem all_bad {n : Nat} {f : Nat → Bool} {i : Nat} (hi : i < n) (h : f i = false) : (List.range n).all f = false := by
  rw [Bool.eq_false_iff]
  intro e
  rw [all_range.1 e i hi] at h
  cases h

theorem fitsB_invalid {s : Shp} {p : Int} {row : List Int} (h : validB s = false) : fitsB s p row = false := by unfold fitsB; rw [h]; rfl
theorem fitsB_pred {s : Shp} {p : Int} {row : List Int} (h : p ≠ s.pred) : fitsB s p row = false := by unfold fitsB; rw [decide_eq_false h]; simp
theorem fitsB_len {s : Shp} {p : Int} {row : List Int} (h : row.length ≠ s.cells.length) : fitsB s p row = false := by unfold fitsB; rw [decide_eq_false h]; simp
theorem fitsB_bad {s : Shp} {p : Int} {row : List Int} {i : Nat} (hi : i < row.length) (h : fitAt s.cells row i = false) : fitsB s p row = false := by unfold fitsB; rw [all_bad hi h]; simp
theorem fitsB_true {s : Shp} {p : Int} {row : List Int} (hv : validB s = true) (hp : p = s.pred) (hl : row.length = s.cells.length) (h : AllTo (fitAt s.cells row) row.length) : fitsB s p row = true := by
  unfold fitsB; rw [hv, decide_eq_true hp, decide_eq_true hl, all_range.2 h]; rfl
theorem fitAt_pos {c row : List Int} {i : Nat} {x y : Int} (hx : x = at' c i) (hy : y = at' row i) (h : 0 ≤ x) : fitAt c row i = (y == x) := by
  unfold fitAt; rw [← hx, ← hy, if_neg (by omega)]
theorem fitAt_neg {c row : List Int} {i j : Nat} {x y z : Int} (hx : x = at' c i) (hy : y = at' row i) (h : x < 0) (hj : -1 - x = (j : Int)) (hz : z = at' row j) : fitAt c row i = (y == z) := by
  unfold fitAt; rw [← hx, ← hy, if_pos h, hj, Int.toNat_natCast, ← hz]

theorem coversB_a {a b : Shp} (h : validB a = false) : coversB a b = false := by unfold coversB; rw [h]; rfl
theorem coversB_b {a b : Shp} (h : validB b = false) : coversB a b = false := by unfold coversB; rw [h]; simp
theorem coversB_pred {a b : Shp} (h : a.pred ≠ b.pred) : coversB a b = false := by unfold coversB; rw [decide_eq_false h]; simp
theorem coversB_len {a b : Shp} (h : a.cells.length ≠ b.cells.length) : coversB a b = false := by unfold coversB; rw [decide_eq_false h]; simp
theorem coversB_bad {a b : Shp} {i : Nat} (hi : i < a.cells.length) (h : covAt a.cells b.cells i = false) : coversB a b = false := by unfold coversB; rw [all_bad hi h]; simp
theorem coversB_true {a b : Shp} (ha : validB a = true) (hb : validB b = true) (hp : a.pred = b.pred) (hl : a.cells.length = b.cells.length) (h : AllTo (covAt a.cells b.cells) a.cells.length) : coversB a b = true := by
  unfold coversB; rw [ha, hb, decide_eq_true hp, decide_eq_true hl, all_range.2 h]; rfl
theorem covAt_pos {a b : List Int} {i : Nat} {x y : Int} (hx : x = at' a i) (hy : y = at' b i) (h : 0 ≤ x) : covAt a b i = (y == x) := by
  unfold covAt; rw [← hx, ← hy, if_neg (by omega)]
theorem covAt_neg {a b : List Int} {i j : Nat} {x y z : Int} (hx : x = at' a i) (hy : y = at' b i) (h : x < 0) (hj : -1 - x = (j : Int)) (hz : z = at' b j) : covAt a b i = (y == z) := by
  unfold covAt; rw [← hx, ← hy, if_pos h, hj, Int.toNat_natCast, ← hz]

/-- What validity says of each cell. -/
theorem valid_cell {s : Shp} (h : validB s = true) {i : Nat} (hi : i < s.cells.length) (hc : at' s.cells i < 0) :
    ∃ j : Nat, -1 - at' s.cells i = (j : Int) ∧ j ≤ i ∧ at' s.cells j = at' s.cells i := by
  unfold validB at h
  rw [Bool.and_eq_true] at h
  have := all_range.1 h.2 i hi
  unfold okAt at this
  rw [decide_eq_false (show ¬ 0 ≤ at' s.cells i by omega), Bool.false_or, Bool.and_eq_true] at this
  refine ⟨(-1 - at' s.cells i).toNat, by omega, by simpa using this.1, by simpa using this.2⟩
theorem valid_pred {s : Shp} (h : validB s = true) : 0 ≤ s.pred := by
  unfold validB at h
  rw [Bool.and_eq_true] at h
  simpa using h.1

/-! ### The loosest row -/
structure Loose (a b row : List Int) (next : Int) : Prop where
  const : ∀ j, j < row.length → 0 ≤ at' b j → at' row j = at' b j
  copy : ∀ j, j < row.length → at' b j < 0 → (-1 - at' b j).toNat < j → at' row j = at' row (-1 - at' b j).toNat
  fresh : ∀ j : Nat, j < row.length → at' b j = -1 - (j : Int) → at' row j < next ∧ ¬ at' row j ∈ a ∧ ¬ at' row j ∈ b
  apart : ∀ j k : Nat, j < k → k < row.length → at' b j = -1 - (j : Int) → at' b k = -1 - (k : Int) → at' row j ≠ at' row k
theorem Loose.start (a b : List Int) (n : Int) : Loose a b [] n := ⟨fun j h => by simp at h, fun j h => by simp at h, fun j h => by simp at h, fun j k _ h => by simp at h⟩
theorem Loose.next {a b row : List Int} {n n' : Int} (h : Loose a b row n) (hn : n ≤ n') : Loose a b row n' :=
  ⟨h.const, h.copy, fun j hj e => ⟨by have := (h.fresh j hj e).1; omega, (h.fresh j hj e).2⟩, h.apart⟩
theorem push_cases {row : List Int} {x : Int} {j : Nat} (h : j < (row ++ [x]).length) : j < row.length ∨ j = row.length := by
  rw [List.length_append] at h; simp at h; omega
theorem Loose.round_const {a b row : List Int} {n x : Int} (h : Loose a b row n) (hx : x = at' b row.length) (h0 : 0 ≤ x) : Loose a b (row ++ [x]) n := by
  refine ⟨fun j hj e => ?_, fun j hj e e2 => ?_, fun j hj e => ?_, fun j k hjk hk e1 e2 => ?_⟩
  · rcases push_cases hj with hj | rfl
    · rw [at_push_old hj]; exact h.const j hj e
    · rw [at_push_new, hx]
  · rcases push_cases hj with hj | rfl
    · rw [at_push_old hj, at_push_old (by omega)]; exact h.copy j hj e e2
    · omega
  · rcases push_cases hj with hj | rfl
    · rw [at_push_old hj]; exact h.fresh j hj e
    · omega
  · rcases push_cases hk with hk | rfl
    · rw [at_push_old hk, at_push_old (by omega)]; exact h.apart j k hjk hk e1 e2
    · omega
theorem Loose.round_copy {a b row : List Int} {n c x : Int} {k : Nat} (h : Loose a b row n) (hc : c = at' b row.length) (h0 : c < 0) (hk : -1 - c = (k : Int)) (hk2 : k < row.length) (hx : x = at' row k) : Loose a b (row ++ [x]) n := by
  have hkk : (-1 - at' b row.length).toNat = k := by rw [← hc, hk, Int.toNat_natCast]
  refine ⟨fun j hj e => ?_, fun j hj e e2 => ?_, fun j hj e => ?_, fun j k hjk hk e1 e2 => ?_⟩
  · rcases push_cases hj with hj | rfl
    · rw [at_push_old hj]; exact h.const j hj e
    · omega
  · rcases push_cases hj with hj | rfl
    · rw [at_push_old hj, at_push_old (by omega)]; exact h.copy j hj e e2
    · rw [at_push_new, hkk, at_push_old hk2, hx]
  · rcases push_cases hj with hj | rfl
    · rw [at_push_old hj]; exact h.fresh j hj e
    · omega
  · rcases push_cases hk with hk | rfl
    · rw [at_push_old hk, at_push_old (by omega)]; exact h.apart j k hjk hk e1 e2
    · omega
theorem Loose.round_fresh {a b row : List Int} {n c : Int} (h : Loose a b row n) (hc : c = at' b row.length) (h0 : c = -1 - (row.length : Int)) (ha : ¬ n ∈ a) (hb : ¬ n ∈ b) : Loose a b (row ++ [n]) (n + 1) := by
  refine ⟨fun j hj e => ?_, fun j hj e e2 => ?_, fun j hj e => ?_, fun j k hjk hk e1 e2 => ?_⟩
  · rcases push_cases hj with hj | rfl
    · rw [at_push_old hj]; exact h.const j hj e
    · omega
  · rcases push_cases hj with hj | rfl
    · rw [at_push_old hj, at_push_old (by omega)]; exact h.copy j hj e e2
    · omega
  · rcases push_cases hj with hj | rfl
    · rw [at_push_old hj]; have := h.fresh j hj e; exact ⟨by omega, this.2⟩
    · rw [at_push_new]; exact ⟨by omega, ha, hb⟩
  · rcases push_cases hk with hk | rfl
    · rw [at_push_old hk, at_push_old (by omega)]; exact h.apart j k hjk hk e1 e2
    · rw [at_push_new, at_push_old hjk]; have := (h.fresh j hjk e1).1; omega

/-- Each place of the whole row: a constant of the shape, or its root's fresh number. -/
theorem Loose.root {a row : List Int} {b : Shp} {n : Int} (h : Loose a b.cells row n) (hl : row.length = b.cells.length) (hv : validB b = true) {i : Nat} (hi : i < b.cells.length) :
    (0 ≤ at' b.cells i ∧ at' row i = at' b.cells i) ∨ ∃ k : Nat, k < b.cells.length ∧ at' b.cells i = -1 - (k : Int) ∧ at' b.cells k = -1 - (k : Int) ∧ at' row i = at' row k := by
  by_cases h0 : 0 ≤ at' b.cells i
  · exact .inl ⟨h0, h.const i (by omega) h0⟩
  · obtain ⟨k, hk, hki, hkc⟩ := valid_cell hv hi (by omega)
    refine .inr ⟨k, by omega, by omega, by omega, ?_⟩
    by_cases e : k = i
    · rw [e]
    · have := h.copy i (by omega) (by omega) (by omega)
      rw [this]; congr 1; omega
theorem Loose.same {a row : List Int} {b : Shp} {n : Int} (h : Loose a b.cells row n) (hl : row.length = b.cells.length) (hv : validB b = true) {i j : Nat} (hi : i < b.cells.length) (hj : j < b.cells.length) :
    at' row i = at' row j ↔ at' b.cells i = at' b.cells j := by
  rcases h.root hl hv hi with ⟨p0, p1⟩ | ⟨k, k1, k2, k3, k4⟩ <;> rcases h.root hl hv hj with ⟨q0, q1⟩ | ⟨m, m1, m2, m3, m4⟩
  · rw [p1, q1]
  · rw [p1, m4]
    refine ⟨fun e => absurd (at_mem hi) ?_, fun e => by omega⟩
    rw [e]; exact (h.fresh m (by omega) m3).2.2
  · rw [q1, k4]
    refine ⟨fun e => absurd (at_mem hj) ?_, fun e => by omega⟩
    rw [← e]; exact (h.fresh k (by omega) k3).2.2
  · rw [k4, m4]
    refine ⟨fun e => ?_, fun e => by rw [show k = m by omega]⟩
    rcases Nat.lt_trichotomy k m with hh | hh | hh
    · exact absurd e (h.apart k m hh (by omega) k3 m3)
    · omega
    · exact absurd e.symm (h.apart m k hh (by omega) m3 k3)
theorem Loose.is {a row : List Int} {b : Shp} {n : Int} (h : Loose a b.cells row n) (hl : row.length = b.cells.length) (hv : validB b = true) {j : Nat} (hj : j < b.cells.length) {c : Int} (h0 : 0 ≤ c) (hc : c ∈ a) :
    at' row j = c ↔ at' b.cells j = c := by
  rcases h.root hl hv hj with ⟨q0, q1⟩ | ⟨m, m1, m2, m3, m4⟩
  · rw [q1]
  · rw [m4]
    refine ⟨fun e => absurd hc ?_, fun e => by omega⟩
    rw [← e]; exact (h.fresh m (by omega) m3).2.1

/-- The loosest row of b fits a just if a covers b. -/
theorem Loose.decides {a b : Shp} {row : List Int} {n : Int} (h : Loose a.cells b.cells row n) (hl : row.length = b.cells.length) (ha : validB a = true) (hb : validB b = true) :
    fitsB a b.pred row = coversB a b := by
  by_cases hp : b.pred = a.pred
  · by_cases hlen : row.length = a.cells.length
    · have hlen2 : a.cells.length = b.cells.length := by omega
      have hat : ∀ i, i < row.length → (fitAt a.cells row i = true ↔ covAt a.cells b.cells i = true) := by
        intro i hi
        unfold fitAt covAt
        by_cases h0 : at' a.cells i < 0
        · obtain ⟨k, hk, hki, _⟩ := valid_cell ha (show i < a.cells.length by omega) h0
          rw [if_pos h0, if_pos h0, hk, Int.toNat_natCast, beq_iff_eq, beq_iff_eq]
          exact h.same hl hb (by omega) (by omega)
        · rw [if_neg h0, if_neg h0, beq_iff_eq, beq_iff_eq]
          exact h.is hl hb (by omega) (by omega) (at_mem (by omega))
      unfold fitsB coversB
      rw [ha, hb, decide_eq_true hp, decide_eq_true hp.symm, decide_eq_true hlen, decide_eq_true hlen2, Bool.true_and, Bool.true_and, Bool.true_and, Bool.true_and, Bool.true_and, Bool.true_and, Bool.true_and]
      rw [Bool.eq_iff_iff, all_range, all_range]
      exact ⟨fun e i hi => (hat i (by omega)).1 (e i (by omega)), fun e i hi => (hat i (by omega)).2 (e i (by omega))⟩
    · rw [fitsB_len hlen, coversB_len (by omega)]
  · rw [fitsB_pred hp, coversB_pred (fun e => hp e.symm)]

/-! ### How far the fresh numbers go -/
def cb : List Int → Int → Nat
  | [], _ => 0
  | x :: l, k => (if 0 ≤ x ∧ x < k then 1 else 0) + cb l k
theorem cb_le (l : List Int) (k : Int) : cb l k ≤ l.length := by
  induction l with
  | nil => exact Nat.le_refl _
  | cons x l ih => unfold cb; rw [List.length_cons]; split <;> omega
theorem cb_up (l : List Int) (k : Int) : cb l k ≤ cb l (k + 1) := by
  induction l with
  | nil => exact Nat.le_refl _
  | cons x l ih =>
    unfold cb
    by_cases h : 0 ≤ x ∧ x < k
    · rw [if_pos h, if_pos (by omega)]; omega
    · rw [if_neg h]; omega
theorem cb_mem {l : List Int} {k : Int} (h0 : 0 ≤ k) (h : k ∈ l) : cb l k + 1 ≤ cb l (k + 1) := by
  induction l with
  | nil => simp at h
  | cons x l ih =>
    unfold cb
    by_cases e : k = x
    · have := cb_up l k
      rw [if_neg (by omega), if_pos (by omega)]; omega
    · have := ih (by simpa [e] using h)
      by_cases hx : 0 ≤ x ∧ x < k
      · rw [if_pos hx, if_pos (by omega)]; omega
      · rw [if_neg hx]; omega

/-- The next number is not farther than what lies below it. -/
def Near (a b : List Int) (m n : Nat) : Prop := n ≤ m + cb a n + cb b n
theorem Near.start (a b : List Int) : Near a b 0 0 := Nat.zero_le _
theorem Near.le {a b : List Int} {m n : Nat} (h : Near a b m n) : n ≤ m + a.length + b.length := by
  have := cb_le a n; have := cb_le b n; unfold Near at h; omega
theorem Near.row {a b : List Int} {m n : Nat} (h : Near a b m n) : Near a b (m + 1) n := by unfold Near at *; omega
theorem Near.skip {a b : List Int} {m n : Nat} (h : Near a b m n) (hn : (n : Int) ∈ a ∨ (n : Int) ∈ b) : Near a b m (n + 1) := by
  unfold Near at *
  rw [show ((n + 1 : Nat) : Int) = (n : Int) + 1 by omega]
  have h1 := cb_up a n
  have h2 := cb_up b n
  rcases hn with hn | hn
  · have := cb_mem (by omega) hn; omega
  · have := cb_mem (by omega) hn; omega
theorem Near.took {a b : List Int} {m n : Nat} (h : Near a b m n) : Near a b (m + 1) (n + 1) := by
  unfold Near at *
  rw [show ((n + 1 : Nat) : Int) = (n : Int) + 1 by omega]
  have h1 := cb_up a n
  have h2 := cb_up b n
  omega

/-! ### Is it there? -/
def NotTo (l : List Int) (n : Int) (k : Nat) : Prop := ∀ j, j < k → at' l j ≠ n
theorem NotTo.start (l : List Int) (n : Int) : NotTo l n 0 := fun j h => by omega
theorem NotTo.round {l : List Int} {n x : Int} {k : Nat} (h : NotTo l n k) (hx : x = at' l k) (e : x ≠ n) : NotTo l n (k + 1) := fun j hj => by
  by_cases ej : j = k
  · subst ej; rw [← hx]; exact e
  · exact h j (by omega)
theorem decide_mem {l : List Int} {n x : Int} {k : Nat} (hk : k < l.length) (hx : x = at' l k) (e : x = n) : decide (n ∈ l) = true := decide_eq_true (by rw [← e, hx]; exact at_mem hk)
theorem decide_not {l : List Int} {n : Int} (h : NotTo l n l.length) : decide (n ∈ l) = false := decide_eq_false fun e => by
  obtain ⟨i, hi, he⟩ := List.getElem_of_mem e
  refine h i hi ?_
  unfold at'; rw [List.getElem?_eq_getElem hi]; exact he

/-! ### Two shapes the same -/
def sameB (s t : Shp) : Bool := decide (s.pred = t.pred) && decide (s.cells = t.cells)
theorem sameB_pred {s t : Shp} (h : s.pred ≠ t.pred) : sameB s t = false := by unfold sameB; rw [decide_eq_false h]; rfl
theorem sameB_len {s t : Shp} (h : s.cells.length ≠ t.cells.length) : sameB s t = false := by unfold sameB; rw [decide_len h]; simp
theorem sameB_at {s t : Shp} {k : Nat} {x y : Int} (hx : x = at' s.cells k) (hy : y = at' t.cells k) (e : x ≠ y) : sameB s t = false := by unfold sameB; rw [decide_at hx hy e]; simp
theorem sameB_true {s t : Shp} (hp : s.pred = t.pred) (hl : s.cells.length = t.cells.length) (h : EqTo s.cells t.cells s.cells.length) : sameB s t = true := by
  unfold sameB; rw [decide_eq_true hp, decide_eq_true (eq_of_at hl h)]; rfl

end Go.Proofs.Ytlandkindbmbfaa.Plain
