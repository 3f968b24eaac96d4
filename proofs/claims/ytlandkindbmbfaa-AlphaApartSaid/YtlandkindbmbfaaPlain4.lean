/-
  Plain laws of patterns: whether some numbers in place of a pattern's variables make it a row; that this is whether the row fits the pattern's shape. No program is in sight here; no condition beyond those that each lemma states.
-/
import Derived.Test.YtlandkindbmbfaaPlain3
namespace Go.Proofs.Ytlandkindbmbfaa.Plain

def slAt (l : List Slt) (i : Nat) : Slt := l[i]?.getD (false, 0)
def instAt (l : List Slt) (args : List Int) (i : Nat) : Bool := at' args i == (if (slAt l i).1 then at' args (firstV l (slAt l i).2) else (slAt l i).2)
def instB (p : Int) (l : List Slt) (pred : Int) (args : List Int) : Bool := decide (p = pred) && (decide (l.length = args.length) && (List.range args.length).all (instAt l args))

theorem instB_pred {p q : Int} {l : List Slt} {args : List Int} (h : p ≠ q) : instB p l q args = false := by unfold instB; rw [decide_eq_false h]; rfl
theorem instB_len {p q : Int} {l : List Slt} {args : List Int} (h : l.length ≠ args.length) : instB p l q args = false := by unfold instB; rw [decide_eq_false h]; simp
theorem instB_bad {p q : Int} {l : List Slt} {args : List Int} {i : Nat} (hi : i < args.length) (h : instAt l args i = false) : instB p l q args = false := by unfold instB; rw [all_bad hi h]; simp
theorem instB_true {p q : Int} {l : List Slt} {args : List Int} (hp : p = q) (hl : l.length = args.length) (h : AllTo (instAt l args) args.length) : instB p l q args = true := by
  unfold instB; rw [decide_eq_true hp, decide_eq_true hl, all_range.2 h]; rfl
theorem slAt_of {l : List Slt} {i : Nat} {a : Slt} (h : l[i]? = some a) : slAt l i = a := by unfold slAt; rw [h]; rfl
theorem instAt_const {l : List Slt} {args : List Int} {i : Nat} {c y : Int} (h : l[i]? = some (false, c)) (hy : y = at' args i) : instAt l args i = (y == c) := by
  unfold instAt; rw [slAt_of h, ← hy]; rfl
theorem instAt_var {l : List Slt} {args : List Int} {i : Nat} {n y : Int} (h : l[i]? = some (true, n)) (hy : y = at' args i) : instAt l args i = (y == at' args (firstV l n)) := by
  unfold instAt; rw [slAt_of h, ← hy]; rfl

/-- What is bound so far. -/
structure Bd (l : List Slt) (args : List Int) (i : Nat) (B : List (Int × Int)) : Prop where
  good : ∀ a, a ∈ B → firstV l a.1 < i ∧ a.2 = at' args (firstV l a.1)
  all : ∀ n, firstV l n < i → ∃ y, (n, y) ∈ B
theorem Bd.start (l : List Slt) (args : List Int) : Bd l args 0 [] := ⟨fun a h => by simp at h, fun n h => by omega⟩
theorem Bd.const {l : List Slt} {args : List Int} {i : Nat} {B : List (Int × Int)} {c : Int} (h : Bd l args i B) (hi : l[i]? = some (false, c)) : Bd l args (i + 1) B :=
  ⟨fun a ha => ⟨by have := (h.good a ha).1; omega, (h.good a ha).2⟩, fun n hn => h.all n (by have := firstV_ne (n := n) hi (by simp); omega)⟩
theorem Bd.old {l : List Slt} {args : List Int} {i : Nat} {B : List (Int × Int)} {n : Int} (h : Bd l args i B) (hi : l[i]? = some (true, n)) (ho : firstV l n < i) : Bd l args (i + 1) B :=
  ⟨fun a ha => ⟨by have := (h.good a ha).1; omega, (h.good a ha).2⟩, fun m hm => h.all m (by
    by_cases e : m = n
    · subst e; exact ho
    · have := firstV_ne (n := m) hi (by simp; omega); omega)⟩
theorem Bd.new {l : List Slt} {args : List Int} {i : Nat} {B : List (Int × Int)} {n y : Int} (h : Bd l args i B) (hi : l[i]? = some (true, n)) (ho : ¬ firstV l n < i) (hy : y = at' args i) : Bd l args (i + 1) (B ++ [(n, y)]) := by
  have hf : firstV l n = i := by have := firstV_le hi; omega
  refine ⟨fun a ha => ?_, fun m hm => ?_⟩
  · rcases List.mem_append.1 ha with ha | ha
    · exact ⟨by have := (h.good a ha).1; omega, (h.good a ha).2⟩
    · simp at ha; subst ha; exact ⟨by simp only; omega, by simp only; rw [hf]; exact hy⟩
  · by_cases e : m = n
    · subst e; exact ⟨y, by simp⟩
    · obtain ⟨z, hz⟩ := h.all m (by have := firstV_ne (n := m) hi (by simp; omega); omega)
      exact ⟨z, List.mem_append.2 (.inl hz)⟩

/-- The inner loop: whether n stands among the first j, and nothing there speaks against y. -/
structure Sc (B : List (Int × Int)) (n y : Int) (j : Nat) (old : Bool) : Prop where
  seen : old = true → ∃ (k : Nat) (z : Int), B[k]? = some (n, z)
  none : old = false → ∀ (k : Nat) (z : Int), k < j → B[k]? ≠ some (n, z)
  fine : ∀ (k : Nat) (z : Int), k < j → B[k]? = some (n, z) → z = y
theorem Sc.start (B : List (Int × Int)) (n y : Int) : Sc B n y 0 false := ⟨(fun h => nomatch h), fun _ k z h => by omega, fun k z h => by omega⟩
theorem Sc.skip {B : List (Int × Int)} {n y m z : Int} {j : Nat} {old : Bool} (h : Sc B n y j old) (hj : B[j]? = some (m, z)) (hm : m ≠ n) : Sc B n y (j + 1) old := by
  refine ⟨h.seen, fun e k x hk hx => ?_, fun k x hk hx => ?_⟩
  · by_cases ek : k = j
    · subst ek; rw [hj] at hx; simp at hx; exact hm hx.1
    · exact h.none e k x (by omega) hx
  · by_cases ek : k = j
    · subst ek; rw [hj] at hx; simp at hx; exact absurd hx.1 hm
    · exact h.fine k x (by omega) hx
theorem Sc.hit {B : List (Int × Int)} {n y : Int} {j : Nat} {old : Bool} (h : Sc B n y j old) (hj : B[j]? = some (n, y)) : Sc B n y (j + 1) true := by
  refine ⟨fun _ => ⟨j, y, hj⟩, (fun e => nomatch e), fun k x hk hx => ?_⟩
  by_cases ek : k = j
  · subst ek; rw [hj] at hx; simp at hx; exact hx.symm
  · exact h.fine k x (by omega) hx
theorem Sc.yes {l : List Slt} {args : List Int} {i : Nat} {B : List (Int × Int)} {n y : Int} (h : Sc B n y B.length true) (hb : Bd l args i B) : firstV l n < i ∧ y = at' args (firstV l n) := by
  obtain ⟨k, z, hk⟩ := h.seen rfl
  have hz := h.fine k z (List.getElem?_eq_some_iff.1 hk).1 hk
  have := hb.good _ (List.mem_of_getElem? hk)
  exact ⟨this.1, by rw [← hz]; exact this.2⟩
theorem Sc.no {l : List Slt} {args : List Int} {i : Nat} {B : List (Int × Int)} {n y : Int} (h : Sc B n y B.length false) (hb : Bd l args i B) : ¬ firstV l n < i := by
  intro hlt
  obtain ⟨z, hz⟩ := hb.all n hlt
  obtain ⟨k, hk, e⟩ := List.getElem_of_mem hz
  exact h.none rfl k z hk (by rw [List.getElem?_eq_getElem hk, e])
theorem Bd.bad {l : List Slt} {args : List Int} {i j : Nat} {B : List (Int × Int)} {n y z : Int} (h : Bd l args i B) (hj : B[j]? = some (n, z)) (hi : l[i]? = some (true, n)) (hy : y = at' args i) (hz : z ≠ y) : instAt l args i = false := by
  rw [instAt_var hi hy]
  have := (h.good _ (List.mem_of_getElem? hj)).2
  simp only at this
  rw [← this]; simpa using fun e => hz e.symm

/-- A row fits the shape of a pattern in order just if it is an instance of it. -/
theorem fits_inst {p q : Int} {l : List Slt} {args : List Int} (hp : 0 ≤ p) (hl : l.all okSlt = true) : fitsB (shapeB p l) q args = instB p l q args := by
  have hv := shape_valid hp hl
  rw [shapeB_ok hp hl] at hv ⊢
  unfold fitsB instB
  rw [hv, Bool.true_and]
  simp only [List.length_map]
  by_cases h1 : q = p
  · rw [decide_eq_true h1, decide_eq_true h1.symm, Bool.true_and, Bool.true_and]
    by_cases h2 : args.length = l.length
    · rw [decide_eq_true h2, decide_eq_true h2.symm, Bool.true_and, Bool.true_and, Bool.eq_iff_iff, all_range, all_range]
      have hat : ∀ i, i < args.length → fitAt (l.map (cellOf l)) args i = instAt l args i := by
        intro i hi
        have hai : l[i]? = some (l[i]'(by omega)) := List.getElem?_eq_getElem (by omega)
        generalize l[i]'(by omega) = a at hai
        obtain ⟨b, n⟩ := a
        have hc := at_map (f := cellOf l) hai
        cases b with
        | false =>
          have hn := List.all_eq_true.1 hl _ (List.mem_of_getElem? hai)
          simp [okSlt] at hn
          rw [fitAt_pos (x := n) (y := at' args i) (by rw [hc]; rfl) rfl hn, instAt_const hai rfl]
        | true =>
          rw [fitAt_neg (x := -1 - (firstV l n : Int)) (y := at' args i) (j := firstV l n) (z := at' args (firstV l n)) (by rw [hc]; rfl) rfl (by omega) (by omega) rfl, instAt_var hai rfl]
      exact ⟨fun h i hi => by rw [← hat i hi]; exact h i hi, fun h i hi => by rw [hat i hi]; exact h i hi⟩
    · rw [decide_eq_false h2, decide_eq_false (show ¬ l.length = args.length from fun e => h2 e.symm)]
      rfl
  · rw [decide_eq_false h1, decide_eq_false (show ¬ p = q from fun e => h1 e.symm)]
    rfl

/-- What a function of the variables makes of a pattern is an instance of it. -/
theorem inst_of_fun {p : Int} {l : List Slt} {f : Slt → Int} (hc : ∀ c, f (false, c) = c) : instB p l p (l.map f) = true := by
  refine instB_true rfl (by simp) (fun i hi => ?_)
  simp only [List.length_map] at hi
  have hai : l[i]? = some l[i] := List.getElem?_eq_getElem hi
  generalize l[i] = a at hai
  obtain ⟨b, n⟩ := a
  have hm := at_map (f := f) hai
  cases b with
  | false => rw [instAt_const hai hm.symm, hc]; simp
  | true =>
    have hle := firstV_le hai
    have hf := firstV_at (l := l) (n := n) (by omega)
    rw [instAt_var hai hm.symm, at_map (f := f) hf]; simp

end Go.Proofs.Ytlandkindbmbfaa.Plain
