/-
  Lists read from their begin on. No condition beyond those that each lemma states.
-/
import Derived.Test.YtmkoejpdoeblkaaP1
namespace Go.Proofs.Ytmkoejpdoeblkaa.Pl

/-- The same up to place i. -/
def EqTo (l m : List Int) (i : Nat) : Prop := ∀ j, j < i → at' l j = at' m j
theorem EqTo.start (l m : List Int) : EqTo l m 0 := fun j hj => by omega
theorem EqTo.round {l m : List Int} {i : Nat} {x y : Int} (h : EqTo l m i) (hx : x = at' l i) (hy : y = at' m i) (e : x = y) : EqTo l m (i + 1) := fun j hj => by
  by_cases hji : j = i
  · subst hji; rw [← hx, ← hy, e]
  · exact h j (by omega)
theorem EqTo.full {l m : List Int} (hl : l.length = m.length) (h : EqTo l m l.length) : l = m := by
  refine List.ext_getElem hl (fun j h1 h2 => ?_)
  have := h j h1
  rwa [at_eq h1, at_eq h2] at this
theorem EqTo.not {l m : List Int} {i : Nat} {x y : Int} (hx : x = at' l i) (hy : y = at' m i) (e : ¬ x = y) : l ≠ m := fun h => e (by rw [hx, hy, h])
/-- Not among the first i. -/
theorem not_take_succ {α : Type} {l : List α} {i : Nat} {x r : α} (hx : l[i]? = some x) (h : r ∉ l.take i) (hne : x ≠ r) : r ∉ l.take (i + 1) := by
  rw [List.take_add_one, hx]
  simp only [Option.toList_some, List.mem_append, List.mem_singleton, not_or]
  exact ⟨h, fun e => hne e.symm⟩
theorem rowNo_none {l : List Rw} {r : Rw} (h : r ∉ l) : rowNo l r = -1 := by
  unfold rowNo; rw [idx_none.2 h]
/-- All of the first i fit. -/
def MayTo (A : List Int) (rs : List Rw) (i : Nat) : Prop := ∀ j r, j < i → rs[j]? = some r → fitsB A r = true
theorem MayTo.start (A : List Int) (rs : List Rw) : MayTo A rs 0 := fun j r hj => by omega
theorem MayTo.round {A : List Int} {rs : List Rw} {i : Nat} {r : Rw} (h : MayTo A rs i) (hr : rs[i]? = some r) (hf : fitsB A r = true) : MayTo A rs (i + 1) := fun j s hj hs => by
  by_cases e : j = i
  · subst e; rw [hr] at hs; rw [← Option.some.inj hs]; exact hf
  · exact h j s (by omega) hs
theorem MayTo.full {A : List Int} {rs : List Rw} (h : MayTo A rs rs.length) : mayB A rs = true := by
  refine List.all_eq_true.2 (fun r hr => ?_)
  obtain ⟨j, hj, rfl⟩ := List.getElem_of_mem hr
  exact h j _ hj (List.getElem?_eq_getElem hj)
theorem may_not {A : List Int} {rs : List Rw} {i : Nat} {r : Rw} (hr : rs[i]? = some r) (hf : fitsB A r = false) : mayB A rs = false := by
  refine Bool.eq_false_iff.2 (fun h => ?_)
  rw [List.all_eq_true.1 h r (List.mem_of_getElem? hr)] at hf; cases hf
/-- All of the first i ids are no less than 0. -/
def PosTo (l : List Int) (i : Nat) : Prop := ∀ j, j < i → 0 ≤ at' l j
theorem PosTo.start (l : List Int) : PosTo l 0 := fun j hj => by omega
theorem PosTo.round {l : List Int} {i : Nat} {x : Int} (h : PosTo l i) (hx : x = at' l i) (h0 : 0 ≤ x) : PosTo l (i + 1) := fun j hj => by
  by_cases e : j = i
  · subst e; rw [← hx]; exact h0
  · exact h j (by omega)
end Go.Proofs.Ytmkoejpdoeblkaa.Pl
