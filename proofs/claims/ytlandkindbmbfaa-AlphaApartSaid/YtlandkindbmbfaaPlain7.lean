/-
  Plain laws of patterns: renamed variables, one shape; a number that no variable has; a constant behind, a new variable behind. No program is in sight here; no condition beyond those that each lemma states.
-/
import Derived.Test.YtlandkindbmbfaaPlain6
namespace Go.Proofs.Ytlandkindbmbfaa.Plain

/-- A renaming of the variables. -/
def rnm (f : Int → Int) (a : Slt) : Slt := if a.1 then (true, f a.2) else a
theorem findIdx_map {α β : Type} (g : α → β) (p : β → Bool) : ∀ l : List α, (l.map g).findIdx p = l.findIdx (fun a => p (g a))
  | [] => rfl
  | a :: l => by simp [List.findIdx_cons, findIdx_map g p l]
theorem findIdx_congr {α : Type} {p q : α → Bool} : ∀ {l : List α}, (∀ a, a ∈ l → p a = q a) → l.findIdx p = l.findIdx q
  | [], _ => rfl
  | a :: l, h => by
    rw [List.findIdx_cons, List.findIdx_cons, h a (by simp), findIdx_congr (fun b hb => h b (List.mem_cons_of_mem _ hb))]
theorem firstV_rnm {f : Int → Int} {l : List Slt} {n : Int} (hf : ∀ a, a ∈ l → a.1 = true → f a.2 = f n → a.2 = n) : firstV (l.map (rnm f)) (f n) = firstV l n := by
  unfold firstV
  rw [findIdx_map]
  refine findIdx_congr (fun a ha => ?_)
  obtain ⟨b, m⟩ := a
  cases b with
  | false => simp [rnm, isVar]
  | true =>
    have hh := hf _ ha rfl
    show (true && f m == f n) = (true && m == n)
    rw [Bool.true_and, Bool.true_and]
    by_cases e : m = n
    · simp [e]
    · have h2 : ¬ f m = f n := fun h => e (hh h)
      rw [beq_false_of_ne h2, beq_false_of_ne e]
theorem shape_rnm {p : Int} {f : Int → Int} {l : List Slt} (hf : ∀ a c, a ∈ l → c ∈ l → a.1 = true → c.1 = true → f a.2 = f c.2 → a.2 = c.2) : shapeB p (l.map (rnm f)) = shapeB p l := by
  unfold shapeB
  have hok : (l.map (rnm f)).all okSlt = l.all okSlt := by
    rw [List.all_map]
    congr 1
    funext a
    obtain ⟨b, n⟩ := a
    cases b <;> rfl
  have hc : (l.map (rnm f)).map (cellOf (l.map (rnm f))) = l.map (cellOf l) := by
    rw [List.map_map]
    refine List.map_congr_left (fun a ha => ?_)
    obtain ⟨b, n⟩ := a
    cases b with
    | false => rfl
    | true =>
      show cellOf (l.map (rnm f)) (true, f n) = cellOf l (true, n)
      show (-1 - (firstV (l.map (rnm f)) (f n) : Int)) = -1 - (firstV l n : Int)
      rw [firstV_rnm (fun c hc h1 h2 => hf c (true, n) hc ha h1 rfl h2)]
  rw [hok, hc]

/-- The numbers of the variables. -/
def vars (l : List Slt) : List Int := (l.filter (fun a => a.1)).map (fun a => a.2)
theorem vars_mem {l : List Slt} {n : Int} : n ∈ vars l ↔ ∃ i : Nat, l[i]? = some (true, n) := by
  unfold vars
  rw [List.mem_map]
  constructor
  · rintro ⟨⟨b, m⟩, ha, rfl⟩
    rw [List.mem_filter] at ha
    obtain ⟨i, hi, e⟩ := List.getElem_of_mem ha.1
    refine ⟨i, ?_⟩
    rw [List.getElem?_eq_getElem hi, e]
    simp only at ha ⊢
    rw [ha.2]
  · rintro ⟨i, hi⟩
    exact ⟨(true, n), List.mem_filter.2 ⟨List.mem_of_getElem? hi, rfl⟩, rfl⟩
theorem vars_len (l : List Slt) : (vars l).length ≤ l.length := by
  unfold vars; rw [List.length_map]; exact List.length_filter_le _ _
/-- The inner loop of unused: is n a variable among the first i? -/
def SeenV (l : List Slt) (n : Int) (i : Nat) (old : Bool) : Prop := old = true ↔ ∃ j : Nat, j < i ∧ l[j]? = some (true, n)
theorem SeenV.start (l : List Slt) (n : Int) : SeenV l n 0 false := ⟨(fun h => nomatch h), fun ⟨j, hj, _⟩ => by omega⟩
theorem SeenV.round {l : List Slt} {n m : Int} {i : Nat} {b old : Bool} (h : SeenV l n i old) (hi : l[i]? = some (b, m)) : SeenV l n (i + 1) (old || (b && m == n)) := by
  unfold SeenV at *
  rw [Bool.or_eq_true, h]
  constructor
  · rintro (⟨j, hj, e⟩ | h2)
    · exact ⟨j, by omega, e⟩
    · simp only [Bool.and_eq_true, beq_iff_eq] at h2
      obtain ⟨rfl, rfl⟩ := h2
      exact ⟨i, by omega, hi⟩
  · rintro ⟨j, hj, e⟩
    by_cases ej : j = i
    · subst ej; rw [hi] at e; simp only [Option.some.injEq, Prod.mk.injEq] at e; right; rw [e.1, e.2]; simp
    · exact .inl ⟨j, by omega, e⟩
theorem SeenV.yes {l : List Slt} {n : Int} (h : SeenV l n l.length true) : n ∈ vars l := by
  obtain ⟨j, _, e⟩ := h.1 rfl
  exact vars_mem.2 ⟨j, e⟩
theorem SeenV.no {l : List Slt} {n : Int} (h : SeenV l n l.length false) : ¬ n ∈ vars l := fun hm => by
  obtain ⟨j, e⟩ := vars_mem.1 hm
  have := h.2 ⟨j, (List.getElem?_eq_some_iff.1 e).1, e⟩
  cases this

/-! ### One slot more -/
theorem firstV_push {l : List Slt} {a : Slt} {n : Int} (h : firstV l n < l.length) : firstV (l ++ [a]) n = firstV l n := by
  have h1 := firstV_at h
  have hp : isVar n (l[firstV l n]'h) = true := List.findIdx_getElem (w := h)
  unfold firstV at *
  rw [List.findIdx_append, if_pos h]
theorem cells_push {l : List Slt} {a : Slt} : (l ++ [a]).map (cellOf (l ++ [a])) = l.map (cellOf l) ++ [cellOf (l ++ [a]) a] := by
  rw [List.map_append]
  congr 1
  refine List.map_congr_left (fun b hb => ?_)
  obtain ⟨c, n⟩ := b
  cases c with
  | false => rfl
  | true =>
    obtain ⟨i, hi, e⟩ := List.getElem_of_mem hb
    have hle : firstV l n ≤ i := firstV_le (by rw [List.getElem?_eq_getElem hi, e])
    simp only [cellOf, if_true]
    rw [firstV_push (by omega)]
theorem firstV_new {l : List Slt} {n : Int} (h : ¬ n ∈ vars l) : firstV (l ++ [(true, n)]) n = l.length := by
  have hle : firstV (l ++ [(true, n)]) n ≤ l.length := firstV_le (by simp)
  rcases Nat.lt_or_ge (firstV (l ++ [(true, n)]) n) l.length with hlt | hge
  · exfalso
    have := firstV_at (l := l ++ [(true, n)]) (n := n) (by simp; omega)
    rw [List.getElem?_append_left hlt] at this
    exact h (vars_mem.2 ⟨_, this⟩)
  · omega
theorem shape_push_const {p : Int} {l : List Slt} {c : Int} (hp : 0 ≤ p) (hl : l.all okSlt = true) (hc : 0 ≤ c) : shapeB p (l ++ [(false, c)]) = ⟨p, (shapeB p l).cells ++ [c]⟩ := by
  rw [shapeB_ok hp hl, shapeB_ok hp (by rw [List.all_append, hl]; simp [okSlt, hc]), cells_push]; rfl
theorem shape_push_var {p : Int} {l : List Slt} {n : Int} (hp : 0 ≤ p) (hl : l.all okSlt = true) (hn : ¬ n ∈ vars l) : shapeB p (l ++ [(true, n)]) = ⟨p, (shapeB p l).cells ++ [-1 - ((shapeB p l).cells.length : Int)]⟩ := by
  rw [shapeB_ok hp hl, shapeB_ok hp (by rw [List.all_append, hl]; simp [okSlt]), cells_push]
  simp only [cellOf, if_true, List.length_map]
  rw [firstV_new hn]

end Go.Proofs.Ytlandkindbmbfaa.Plain
