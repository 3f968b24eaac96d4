/-
  Plain laws of patterns: the shape of a pattern, where a variable stands first. No program is in sight here; no condition beyond those that each lemma states.
-/
import Derived.Test.YtlandkindbmbfaaPlain2
namespace Go.Proofs.Ytlandkindbmbfaa.Plain

/-- A pattern's slots: is it a variable, and its number. -/
abbrev Slt := Bool × Int
def isVar (n : Int) (a : Slt) : Bool := a.1 && a.2 == n
/-- Where the variable n stands first; the length where it does not stand. -/
def firstV (l : List Slt) (n : Int) : Nat := l.findIdx (isVar n)
def cellOf (l : List Slt) (a : Slt) : Int := if a.1 then -1 - (firstV l a.2 : Int) else a.2
def okSlt (a : Slt) : Bool := a.1 || decide (0 ≤ a.2)
def shapeB (p : Int) (l : List Slt) : Shp := if decide (0 ≤ p) && l.all okSlt then ⟨p, l.map (cellOf l)⟩ else ⟨-1, []⟩

theorem firstV_le {l : List Slt} {i : Nat} {n : Int} (h : l[i]? = some (true, n)) : firstV l n ≤ i := by
  obtain ⟨hi, e⟩ := List.getElem?_eq_some_iff.1 h
  rcases Nat.lt_or_ge i (firstV l n) with hlt | hge
  · have := List.not_of_lt_findIdx hlt
    rw [e] at this
    simp [isVar] at this
  · exact hge
theorem firstV_at {l : List Slt} {n : Int} (h : firstV l n < l.length) : l[firstV l n]? = some (true, n) := by
  have h1 : isVar n (l[firstV l n]'h) = true := List.findIdx_getElem (w := h)
  rw [List.getElem?_eq_getElem h]
  generalize l[firstV l n]'h = a at h1 ⊢
  obtain ⟨b, m⟩ := a
  simp [isVar] at h1
  simp [h1.1, h1.2]
theorem firstV_ne {l : List Slt} {i : Nat} {a : Slt} {n : Int} (h : l[i]? = some a) (hne : a ≠ (true, n)) : firstV l n ≠ i := by
  intro e
  have hi := (List.getElem?_eq_some_iff.1 h).1
  have := firstV_at (l := l) (n := n) (by omega)
  rw [e, h] at this
  exact hne (Option.some.inj this)

theorem shapeB_neg {p : Int} {l : List Slt} (h : p < 0) : shapeB p l = ⟨-1, []⟩ := by
  unfold shapeB; rw [decide_eq_false (by omega)]; rfl
theorem shapeB_bad {p : Int} {l : List Slt} {i : Nat} {c : Int} (h : l[i]? = some (false, c)) (hc : c < 0) : shapeB p l = ⟨-1, []⟩ := by
  unfold shapeB
  have : l.all okSlt = false := by
    rw [Bool.eq_false_iff]
    intro e
    have := List.all_eq_true.1 e _ (List.mem_of_getElem? h)
    simp [okSlt] at this
    omega
  rw [this, Bool.and_false]; rfl
/-- The first i slots are in order, and c is what their cells are. -/
structure ShTo (l : List Slt) (i : Nat) (c : List Int) : Prop where
  le : i ≤ l.length
  ok : (l.take i).all okSlt = true
  cells : c = (l.take i).map (cellOf l)
theorem ShTo.start (l : List Slt) : ShTo l 0 [] := ⟨Nat.zero_le _, by simp, by simp⟩
theorem ShTo.len {l : List Slt} {i : Nat} {c : List Int} (h : ShTo l i c) : c.length = i := by
  rw [h.cells, List.length_map, List.length_take]; have := h.le; omega
theorem take_one {α : Type} {l : List α} {i : Nat} {a : α} (h : l[i]? = some a) : l.take (i + 1) = l.take i ++ [a] := by
  rw [List.take_add_one, h]; rfl
theorem ShTo.const {l : List Slt} {i : Nat} {c : List Int} {x : Int} (h : ShTo l i c) (hi : l[i]? = some (false, x)) (hx : 0 ≤ x) : ShTo l (i + 1) (c ++ [x]) := by
  have hlt := (List.getElem?_eq_some_iff.1 hi).1
  refine ⟨hlt, ?_, ?_⟩
  · rw [take_one hi, List.all_append, h.ok]; simp [okSlt, hx]
  · rw [take_one hi, List.map_append, ← h.cells]; simp [cellOf]
theorem ShTo.var {l : List Slt} {i : Nat} {c : List Int} {n : Int} {j : Nat} (h : ShTo l i c) (hi : l[i]? = some (true, n)) (hj : firstV l n = j) : ShTo l (i + 1) (c ++ [-1 - (j : Int)]) := by
  have hlt := (List.getElem?_eq_some_iff.1 hi).1
  refine ⟨hlt, ?_, ?_⟩
  · rw [take_one hi, List.all_append, h.ok]; simp [okSlt]
  · rw [take_one hi, List.map_append, ← h.cells, ← hj]; simp [cellOf]
theorem ShTo.stop {l : List Slt} {c : List Int} {p : Int} (h : ShTo l l.length c) (hp : 0 ≤ p) : shapeB p l = ⟨p, c⟩ := by
  unfold shapeB
  have h1 := h.ok
  have h2 := h.cells
  rw [List.take_length] at h1 h2
  rw [h1, decide_eq_true hp, h2]; rfl

/-! ### A pattern in order has a valid shape -/
theorem shapeB_ok {p : Int} {l : List Slt} (hp : 0 ≤ p) (h : l.all okSlt = true) : shapeB p l = ⟨p, l.map (cellOf l)⟩ := by
  unfold shapeB; rw [h, decide_eq_true hp]; rfl
theorem at_map {l : List Slt} {f : Slt → Int} {i : Nat} {a : Slt} (h : l[i]? = some a) : at' (l.map f) i = f a := by
  unfold at'; rw [List.getElem?_map, h]; rfl
theorem shape_valid {p : Int} {l : List Slt} (hp : 0 ≤ p) (h : l.all okSlt = true) : validB (shapeB p l) = true := by
  rw [shapeB_ok hp h]
  refine validB_true hp (fun i hi => ?_)
  simp only [List.length_map] at hi
  have hai : l[i]? = some l[i] := List.getElem?_eq_getElem hi
  generalize l[i] = a at hai
  obtain ⟨b, n⟩ := a
  have hat := at_map (f := cellOf l) hai
  cases b with
  | false =>
    have hn := List.all_eq_true.1 h _ (List.mem_of_getElem? hai)
    simp [okSlt] at hn
    exact okAt_pos (c := n) (by rw [hat]; rfl) hn
  | true =>
    have hle := firstV_le hai
    have hf := firstV_at (l := l) (n := n) (by omega)
    have hat2 := at_map (f := cellOf l) hf
    exact okAt_same (c := -1 - (firstV l n : Int)) (j := firstV l n) (by rw [hat]; rfl) (by omega) (by omega) hle (by rw [hat2]; rfl)

end Go.Proofs.Ytlandkindbmbfaa.Plain
