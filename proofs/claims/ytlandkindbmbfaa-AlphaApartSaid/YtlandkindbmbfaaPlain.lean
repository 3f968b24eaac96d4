/-
  Plain laws of shapes: which are valid, which rows fit, which shape covers another. No program is in sight here; no condition beyond those that each lemma states.
-/
namespace Go.Proofs.Ytlandkindbmbfaa.Plain

/-- The element at a place; 0 behind the end. -/
def at' (l : List Int) (i : Nat) : Int := l[i]?.getD 0

structure Shp where
  pred : Int
  cells : List Int

def okAt (l : List Int) (i : Nat) : Bool :=
  decide (0 ≤ at' l i) || (decide ((-1 - at' l i).toNat ≤ i) && at' l (-1 - at' l i).toNat == at' l i)
def validB (s : Shp) : Bool := decide (0 ≤ s.pred) && (List.range s.cells.length).all (okAt s.cells)

def OkTo (l : List Int) (k : Nat) : Prop := ∀ i, i < k → okAt l i = true
theorem OkTo.start (l : List Int) : OkTo l 0 := fun i h => by omega
theorem OkTo.round {l : List Int} {k : Nat} (h : OkTo l k) (hk : okAt l k = true) : OkTo l (k + 1) := fun i hi => by
  by_cases e : i = k
  · subst e; exact hk
  · exact h i (by omega)
theorem all_range {n : Nat} {f : Nat → Bool} : (List.range n).all f = true ↔ ∀ i, i < n → f i = true := by
  simp [List.all_eq_true, List.mem_range]
theorem validB_true {s : Shp} (hp : 0 ≤ s.pred) (h : OkTo s.cells s.cells.length) : validB s = true := by
  unfold validB; rw [Bool.and_eq_true]; exact ⟨by simpa using hp, all_range.2 h⟩
theorem validB_bad {s : Shp} {i : Nat} (hi : i < s.cells.length) (h : okAt s.cells i = false) : validB s = false := by
  unfold validB
  have : (List.range s.cells.length).all (okAt s.cells) = false := by
    rw [Bool.eq_false_iff]
    intro e
    rw [all_range.1 e i hi] at h
    cases h
  rw [this, Bool.and_false]
theorem validB_neg {s : Shp} (hp : s.pred < 0) : validB s = false := by
  unfold validB; rw [decide_eq_false (by omega), Bool.false_and]

theorem okAt_pos {l : List Int} {i : Nat} {c : Int} (hc : c = at' l i) (h : 0 ≤ c) : okAt l i = true := by
  unfold okAt; rw [← hc, decide_eq_true h, Bool.true_or]
theorem okAt_far {l : List Int} {i j : Nat} {c : Int} (hc : c = at' l i) (h : c < 0) (hj : -1 - c = (j : Int)) (hji : i < j) : okAt l i = false := by
  unfold okAt; rw [← hc, hj, decide_eq_false (by omega), decide_eq_false (by simp; omega)]; rfl
theorem okAt_same {l : List Int} {i j : Nat} {c : Int} (hc : c = at' l i) (h : c < 0) (hj : -1 - c = (j : Int)) (hji : j ≤ i) (he : at' l j = c) : okAt l i = true := by
  unfold okAt; rw [← hc, hj, Int.toNat_natCast, he]; simp; omega
theorem okAt_other {l : List Int} {i j : Nat} {c : Int} (hc : c = at' l i) (h : c < 0) (hj : -1 - c = (j : Int)) (he : at' l j ≠ c) : okAt l i = false := by
  unfold okAt; rw [← hc, hj, Int.toNat_natCast, decide_eq_false (by omega)]; simp [he]

/-! ### Lists that are the same -/
def EqTo (l m : List Int) (k : Nat) : Prop := ∀ j, j < k → at' l j = at' m j
theorem EqTo.start (l m : List Int) : EqTo l m 0 := fun j h => by omega
theorem EqTo.round {l m : List Int} {k : Nat} {x y : Int} (h : EqTo l m k) (hx : x = at' l k) (hy : y = at' m k) (e : x = y) : EqTo l m (k + 1) := fun j hj => by
  by_cases ej : j = k
  · subst ej; rw [← hx, ← hy, e]
  · exact h j (by omega)
theorem eq_of_at {l m : List Int} (hl : l.length = m.length) (h : EqTo l m l.length) : l = m := by
  apply List.ext_getElem hl
  intro i h1 h2
  have := h i h1
  unfold at' at this
  rw [List.getElem?_eq_getElem h1, List.getElem?_eq_getElem h2] at this
  simpa using this
theorem decide_len {l m : List Int} (h : l.length ≠ m.length) : decide (l = m) = false := decide_eq_false fun e => h (by rw [e])
theorem decide_at {l m : List Int} {k : Nat} {x y : Int} (hx : x = at' l k) (hy : y = at' m k) (e : x ≠ y) : decide (l = m) = false := decide_eq_false fun h => e (by rw [hx, hy, h])

end Go.Proofs.Ytlandkindbmbfaa.Plain
