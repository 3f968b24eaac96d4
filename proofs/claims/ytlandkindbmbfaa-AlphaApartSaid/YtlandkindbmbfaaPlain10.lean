/-
  Plain laws of nets: which lists of shapes make one. No program is in sight here; no condition beyond those that each lemma states.
-/
import Derived.Test.YtlandkindbmbfaaPlain7
namespace Go.Proofs.Ytlandkindbmbfaa.Plain

/-- Is there a net of these shapes? -/
def newAt (ss : List Shp) (j : Nat) : Bool := match ss[j]? with
  | some s => validB s && !standsB (ss.take j) s
  | none => true
def newB (ss : List Shp) : Bool := (List.range ss.length).all (newAt ss)
theorem newAt_some {ss : List Shp} {j : Nat} {s : Shp} (h : ss[j]? = some s) : newAt ss j = (validB s && !standsB (ss.take j) s) := by unfold newAt; rw [h]
theorem newB_iff (ss : List Shp) : newB ss = true ↔ ∀ (j : Nat) (s : Shp), ss[j]? = some s → validB s = true ∧ standsB (ss.take j) s = false := by
  unfold newB
  rw [List.all_eq_true]
  constructor
  · intro h j s hs
    have hj : j < ss.length := (List.getElem?_eq_some_iff.1 hs).1
    have := h j (List.mem_range.2 hj)
    rw [newAt_some hs] at this
    simpa using this
  · intro h j hj
    have hj' := List.mem_range.1 hj
    have hs : ss[j]? = some (ss[j]'hj') := List.getElem?_eq_getElem hj'
    rw [newAt_some hs]
    have := h j _ hs
    simp [this.1, this.2]
theorem newB_invalid {ss : List Shp} {i : Nat} {s : Shp} (hs : ss[i]? = some s) (h : validB s = false) : newB ss = false := by
  rw [Bool.eq_false_iff]
  intro e
  have := ((newB_iff ss).1 e i s hs).1
  rw [h] at this; cases this
theorem newB_twice {ss : List Shp} {i : Nat} {s : Shp} (hs : ss[i]? = some s) (h : standsB (ss.take i) s = true) : newB ss = false := by
  rw [Bool.eq_false_iff]
  intro e
  have := ((newB_iff ss).1 e i s hs).2
  rw [h] at this; cases this
theorem newB_valid {ss : List Shp} (h : newB ss = true) : ∀ s, s ∈ ss → validB s = true := by
  intro s hs
  obtain ⟨j, hj, rfl⟩ := List.getElem_of_mem hs
  exact ((newB_iff ss).1 h j _ (List.getElem?_eq_getElem hj)).1
/-- The first i are all right. -/
def NewTo (ss : List Shp) (i : Nat) : Prop := ∀ (j : Nat) (s : Shp), j < i → ss[j]? = some s → validB s = true ∧ standsB (ss.take j) s = false
theorem NewTo.start (ss : List Shp) : NewTo ss 0 := fun j s h => by omega
theorem NewTo.round {ss : List Shp} {i : Nat} {s : Shp} (h : NewTo ss i) (hs : ss[i]? = some s) (hv : validB s = true) (hn : standsB (ss.take i) s = false) : NewTo ss (i + 1) := fun j t hj ht => by
  by_cases e : j = i
  · subst e; rw [hs] at ht; obtain rfl := Option.some.inj ht; exact ⟨hv, hn⟩
  · exact h j t (by omega) ht
theorem NewTo.stop {ss : List Shp} (h : NewTo ss ss.length) : newB ss = true :=
  (newB_iff ss).2 fun j s hs => h j s (List.getElem?_eq_some_iff.1 hs).1 hs
theorem newB_snoc {ss : List Shp} {s : Shp} (h : newB ss = true) (hv : validB s = true) (hn : standsB ss s = false) : newB (ss ++ [s]) = true := by
  refine (newB_iff _).2 fun j t ht => ?_
  by_cases e : j < ss.length
  · rw [List.getElem?_append_left e] at ht
    rw [List.take_append_of_le_length (by omega)]
    exact (newB_iff ss).1 h j t ht
  · have hj : j < (ss ++ [s]).length := (List.getElem?_eq_some_iff.1 ht).1
    rw [List.length_append, List.length_singleton] at hj
    obtain rfl : j = ss.length := by omega
    have e1 : (ss ++ [s])[ss.length]? = some s := by simp
    rw [e1] at ht
    obtain rfl := Option.some.inj ht
    rw [List.take_left]
    exact ⟨hv, hn⟩
theorem newB_nil : newB [] = true := rfl

end Go.Proofs.Ytlandkindbmbfaa.Plain
