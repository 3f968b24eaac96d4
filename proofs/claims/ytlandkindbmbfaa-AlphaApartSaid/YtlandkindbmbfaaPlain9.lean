/-
  Plain laws of memories: the numbers of a list's members that have a property, rising; what comes with one more; what goes when the list is cut. No program is in sight here.
-/
namespace Go.Proofs.Ytlandkindbmbfaa.Plain

/-- The places (counted from k) of the members that have the property, rising. -/
def idxFrom {α : Type} (f : α → Bool) : Nat → List α → List Int
  | _, [] => []
  | k, a :: l => if f a = true then (k : Int) :: idxFrom f (k + 1) l else idxFrom f (k + 1) l
def idx {α : Type} (f : α → Bool) (l : List α) : List Int := idxFrom f 0 l

section
variable {α : Type} {f : α → Bool}
theorem idxFrom_cons (a : α) (l : List α) (k : Nat) : idxFrom f k (a :: l) = if f a = true then (k : Int) :: idxFrom f (k + 1) l else idxFrom f (k + 1) l := rfl
theorem idxFrom_append : ∀ (l m : List α) (k : Nat), idxFrom f k (l ++ m) = idxFrom f k l ++ idxFrom f (k + l.length) m
  | [], m, k => by simp [idxFrom]
  | a :: l, m, k => by
    have e := idxFrom_append l m (k + 1)
    have e2 : k + (a :: l).length = k + 1 + l.length := by simp; omega
    rw [e2, List.cons_append, idxFrom_cons, idxFrom_cons, e]
    split
    · rfl
    · rfl
theorem idx_snoc (l : List α) (a : α) : idx f (l ++ [a]) = idx f l ++ (if f a = true then [(l.length : Int)] else []) := by
  unfold idx
  rw [idxFrom_append, Nat.zero_add]
  congr 1
theorem idx_next {l : List α} {i : Nat} {a : α} (h : l[i]? = some a) : idx f (l.take (i + 1)) = idx f (l.take i) ++ (if f a = true then [(i : Int)] else []) := by
  have hi : i < l.length := (List.getElem?_eq_some_iff.1 h).1
  rw [List.take_add_one, h]
  have := idx_snoc (f := f) (l.take i) a
  rw [List.length_take, Nat.min_eq_left (by omega)] at this
  exact this
theorem idx_yes {l : List α} {i : Nat} {a : α} (h : l[i]? = some a) (hf : f a = true) : idx f (l.take (i + 1)) = idx f (l.take i) ++ [(i : Int)] := by rw [idx_next h, if_pos hf]
theorem idx_no {l : List α} {i : Nat} {a : α} (h : l[i]? = some a) (hf : f a = false) : idx f (l.take (i + 1)) = idx f (l.take i) := by rw [idx_next h, if_neg (by simp [hf]), List.append_nil]
theorem idxFrom_bounds : ∀ (l : List α) (k : Nat), ∀ x ∈ idxFrom f k l, (k : Int) ≤ x ∧ x < (k : Int) + (l.length : Int)
  | [], k => by simp [idxFrom]
  | a :: l, k => by
    intro x hx
    have e := idxFrom_bounds l (k + 1)
    unfold idxFrom at hx
    have e2 : ((a :: l).length : Int) = (l.length : Int) + 1 := by simp
    rw [e2]
    split at hx
    · rcases List.mem_cons.1 hx with rfl | hx
      · omega
      · have := e x hx; omega
    · have := e x hx; omega
theorem idx_bounds (l : List α) : ∀ x ∈ idx f l, 0 ≤ x ∧ x < (l.length : Int) := by
  intro x hx
  have := idxFrom_bounds (f := f) l 0 x hx
  omega
theorem idxFrom_length : ∀ (l : List α) (k : Nat), (idxFrom f k l).length ≤ l.length
  | [], _ => by simp [idxFrom]
  | a :: l, k => by
    have e := idxFrom_length l (k + 1)
    unfold idxFrom
    split <;> simp <;> omega
theorem idx_length (l : List α) : (idx f l).length ≤ l.length := idxFrom_length l 0
/-- Cut at m: what stands before is less, what stands behind is not. -/
theorem idx_cut (l : List α) {m : Nat} (hm : m ≤ l.length) : idx f l = idx f (l.take m) ++ idxFrom f m (l.drop m) := by
  have e := idxFrom_append (f := f) (l.take m) (l.drop m) 0
  rw [List.take_append_drop, List.length_take, Nat.min_eq_left hm, Nat.zero_add] at e
  exact e
theorem idxFrom_mem : ∀ (l : List α) (k j : Nat), ((k + j : Nat) : Int) ∈ idxFrom f k l ↔ ∃ a, l[j]? = some a ∧ f a = true
  | [], k, j => by simp [idxFrom]
  | a :: l, k, j => by
    have hb := idxFrom_bounds (f := f) l (k + 1)
    match j with
    | 0 =>
      unfold idxFrom
      split
      · rename_i h; simp [h]
      · rename_i h
        simp only [Nat.add_zero, List.getElem?_cons_zero, Option.some.injEq, exists_eq_left']
        constructor
        · intro hx; have := hb _ hx; omega
        · intro hx; exact absurd hx h
    | j + 1 =>
      have e := idxFrom_mem l (k + 1) j
      rw [show k + 1 + j = k + (j + 1) by omega] at e
      rw [List.getElem?_cons_succ, ← e]
      rw [idxFrom]
      split
      · rw [List.mem_cons]
        constructor
        · rintro (hx | hx)
          · omega
          · exact hx
        · exact .inr
      · exact Iff.rfl
theorem idx_mem {l : List α} {j : Nat} {a : α} (h : l[j]? = some a) : decide ((j : Int) ∈ idx f l) = f a := by
  have e := idxFrom_mem (f := f) l 0 j
  rw [Nat.zero_add] at e
  cases hf : f a with
  | true => exact decide_eq_true (e.2 ⟨a, h, hf⟩)
  | false =>
    refine decide_eq_false fun hx => ?_
    obtain ⟨b, hb, hb2⟩ := e.1 hx
    rw [h] at hb
    obtain rfl := Option.some.inj hb
    rw [hf] at hb2; cases hb2
theorem idx_nil : idx f [] = [] := rfl
end

end Go.Proofs.Ytlandkindbmbfaa.Plain
