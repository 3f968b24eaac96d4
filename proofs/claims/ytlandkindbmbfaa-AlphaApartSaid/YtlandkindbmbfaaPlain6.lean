/-
  Plain laws of lists of shapes: which stand there; the distinct shapes of some patterns. No program is in sight here; no condition beyond those that each lemma states.
-/
import Derived.Test.YtlandkindbmbfaaPlain5
namespace Go.Proofs.Ytlandkindbmbfaa.Plain

theorem sameB_symm (s t : Shp) : sameB s t = sameB t s := by
  unfold sameB
  rw [Bool.eq_iff_iff]; simp only [Bool.and_eq_true, decide_eq_true_eq]
  exact ⟨fun h => ⟨h.1.symm, h.2.symm⟩, fun h => ⟨h.1.symm, h.2.symm⟩⟩
def standsB (l : List Shp) (s : Shp) : Bool := l.any (sameB s)
/-- None of the first k is s. -/
def NoTo (l : List Shp) (s : Shp) (k : Nat) : Prop := ∀ (j : Nat) (t : Shp), j < k → l[j]? = some t → sameB s t = false
theorem NoTo.start (l : List Shp) (s : Shp) : NoTo l s 0 := fun j t h => by omega
theorem NoTo.round {l : List Shp} {s t : Shp} {k : Nat} (h : NoTo l s k) (hk : l[k]? = some t) (hf : sameB s t = false) : NoTo l s (k + 1) := fun j u hj hu => by
  by_cases e : j = k
  · subst e; rw [hk] at hu; obtain rfl := Option.some.inj hu; exact hf
  · exact h j u (by omega) hu
theorem stands_yes {l : List Shp} {s t : Shp} {k : Nat} (hk : l[k]? = some t) (h : sameB s t = true) : standsB l s = true := by
  unfold standsB; exact List.any_eq_true.2 ⟨t, List.mem_of_getElem? hk, h⟩
theorem stands_no {l : List Shp} {s : Shp} (h : NoTo l s l.length) : standsB l s = false := by
  rw [Bool.eq_false_iff]
  intro e
  obtain ⟨t, ht, hs⟩ := List.any_eq_true.1 e
  obtain ⟨k, hk, rfl⟩ := List.getElem_of_mem ht
  have := h k _ hk (List.getElem?_eq_getElem hk)
  rw [this] at hs; cases hs

abbrev Pt := Int × List Slt
def shp (x : Pt) : Shp := shapeB x.1 x.2
def stepD (acc : List Shp) (x : Pt) : List Shp := if decide (0 ≤ (shp x).pred) && !(standsB acc (shp x)) then acc ++ [shp x] else acc
def distB (ps : List Pt) : List Shp := ps.foldl stepD []
theorem distB_next {ps : List Pt} {i : Nat} {x : Pt} (h : ps[i]? = some x) : distB (ps.take (i + 1)) = stepD (distB (ps.take i)) x := by
  unfold distB; rw [take_one h, List.foldl_append]; rfl
theorem stepD_yes {acc : List Shp} {x : Pt} (h : 0 ≤ (shp x).pred) (hs : standsB acc (shp x) = false) : stepD acc x = acc ++ [shp x] := by
  unfold stepD; rw [decide_eq_true h, hs]; rfl
theorem stepD_neg {acc : List Shp} {x : Pt} (h : (shp x).pred < 0) : stepD acc x = acc := by
  unfold stepD; rw [decide_eq_false (by omega)]; rfl
theorem stepD_old {acc : List Shp} {x : Pt} (hs : standsB acc (shp x) = true) : stepD acc x = acc := by
  unfold stepD; rw [hs, Bool.not_true, Bool.and_false]; rfl
theorem distB_len (ps : List Pt) : (distB ps).length ≤ ps.length := by
  have : ∀ (l : List Pt) (acc : List Shp), (l.foldl stepD acc).length ≤ acc.length + l.length := by
    intro l
    induction l with
    | nil => intro acc; simp
    | cons x l ih =>
      intro acc
      rw [List.foldl_cons, List.length_cons]
      have h1 := ih (stepD acc x)
      have h2 : (stepD acc x).length ≤ acc.length + 1 := by unfold stepD; split <;> simp
      omega
  have := this ps []
  simpa [distB] using this
theorem distB_mem {ps : List Pt} {s : Shp} (h : s ∈ distB ps) : ∃ x, x ∈ ps ∧ s = shp x := by
  have : ∀ (l : List Pt) (acc : List Shp), s ∈ l.foldl stepD acc → s ∈ acc ∨ ∃ x, x ∈ l ∧ s = shp x := by
    intro l
    induction l with
    | nil => intro acc h; exact .inl h
    | cons x l ih =>
      intro acc h
      rw [List.foldl_cons] at h
      rcases ih _ h with h | ⟨y, hy, e⟩
      · unfold stepD at h
        split at h
        · rcases List.mem_append.1 h with h | h
          · exact .inl h
          · exact .inr ⟨x, by simp, by simpa using h⟩
        · exact .inl h
      · exact .inr ⟨y, List.mem_cons_of_mem _ hy, e⟩
  rcases this ps [] h with h | h
  · simp at h
  · exact h
theorem shape_valid_iff (p : Int) (l : List Slt) : validB (shapeB p l) = decide (0 ≤ (shapeB p l).pred) := by
  by_cases h : 0 ≤ p ∧ l.all okSlt = true
  · rw [shape_valid h.1 h.2, shapeB_ok h.1 h.2]; exact (decide_eq_true h.1).symm
  · have : shapeB p l = ⟨-1, []⟩ := by
      unfold shapeB
      rw [if_neg]
      simp only [Bool.and_eq_true, decide_eq_true_eq]
      exact h
    rw [this]; rfl

end Go.Proofs.Ytlandkindbmbfaa.Plain
