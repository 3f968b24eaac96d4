/-
  Lists of rows and of patterns of the call's own, in memory. No condition beyond those that each lemma states.
-/
import Derived.Test.YtlandkindbmbfaaW23
import Derived.Test.YtlandkindbmbfaaW22
namespace Go.Proofs.Ytlandkindbmbfaa
open Go.RowKit Plain

/-- A list of rows of the call's own, each with cells of its own, all from block B on. -/
def OwnRws (w : World) (B : Nat) (v : Value) (ss : List Shp) : Prop :=
  ∃ vs : List Value, vs.length = ss.length ∧ w.ownsRow B 33 2 v ss.length (flat ss vs) ∧ ∀ (j : Nat) (s : Shp) (u : Value), ss[j]? = some s → vs[j]? = some u → OwnInts w B u s.cells
theorem OwnRws.nil (w : World) (B : Nat) : OwnRws w B (.slice none 0 0) [] := ⟨[], rfl, World.ownsRow_nil _ _ _ _, fun j s u h => by simp at h⟩
theorem OwnRws.at {w : World} {B : Nat} {v : Value} {ss : List Shp} (h : OwnRws w B v ss) : ShpsAt w w.heap.size v ss := by
  obtain ⟨vs, hl, ho, hi⟩ := h
  rcases Joins.ownsRow_forms ho with ⟨rfl, h0⟩ | ⟨g, cap, rfl⟩
  · obtain rfl := List.length_eq_zero_iff.1 h0
    exact ⟨none, 0, rfl, .inl rfl⟩
  · refine ⟨_, cap, rfl, .inr ⟨g, 0, rfl, (ho.lt g rfl).2, fun j s hj => ?_⟩⟩
    have hj' : j < ss.length := (List.getElem?_eq_some_iff.1 hj).1
    obtain ⟨u, hu⟩ : ∃ u, vs[j]? = some u := ⟨vs[j]'(by omega), List.getElem?_eq_getElem (by omega)⟩
    have hf := flat_get ss vs j s u hj hu
    have ho2 := hi j s u hj hu
    refine ⟨u, ?_, ?_, ho2.at, ho2.nilly⟩
    · rw [Nat.zero_add, World.ownsRow.cellAt ho (j * 2) (by omega)]; exact hf.1
    · rw [Nat.zero_add, World.ownsRow.cellAt ho (j * 2 + 1) (by omega)]; exact hf.2

/-- The list of rows outlives what grows elsewhere. -/
theorem OwnRws.kept {w w' : World} {B : Nat} {v : Value} {ss : List Shp} {r : Option Nat} (h : OwnRws w B v ss) (hr : r = none ∨ ∃ k, r = some k ∧ w.heap.size ≤ k) (hg : w.grownBy w' r) : OwnRws w' B v ss := by
  obtain ⟨vs, hl, ho, hi⟩ := h
  exact ⟨vs, hl, ho.kept hg (lt_of_own ho hr), fun j s u h1 h2 => (hi j s u h1 h2).kept hg (lt_of_own (hi j s u h1 h2) hr)⟩
theorem OwnRws.heap {w w' : World} {B : Nat} {v : Value} {ss : List Shp} (h : OwnRws w B v ss) (e : w'.heap = w.heap) : OwnRws w' B v ss := by
  obtain ⟨vs, hl, ho, hi⟩ := h
  refine ⟨vs, hl, ?_, fun j s u h1 h2 => ?_⟩
  · unfold World.ownsRow at *; rw [e]; exact ho
  · have := hi j s u h1 h2; unfold OwnInts World.ownsRow at *; rw [e]; exact this

/-- One row more, whose cells are the call's own. -/
theorem OwnRws.snoc {w w2 : World} {B : Nat} {v v' u : Value} {ss : List Shp} {s : Shp} {vs : List Value} (hl : vs.length = ss.length) (ho : w.ownsRow B 33 2 v ss.length (flat ss vs))
    (hi : ∀ (j : Nat) (s : Shp) (u : Value), ss[j]? = some s → vs[j]? = some u → OwnInts w B u s.cells) (hu : OwnInts w B u s.cells)
    (hown2 : w2.ownsRow B 33 2 v' (ss.length + 1) (flat ss vs ++ [.int .i64 s.pred, u])) (hg : w.grownBy w2 v.ownBlock) : OwnRws w2 B v' (ss ++ [s]) := by
  refine ⟨vs ++ [u], by simp [hl], ?_, fun j t x h1 h2 => ?_⟩
  · rw [flat_snoc _ _ _ _ hl, List.length_append, List.length_singleton]; exact hown2
  · have hj : j < (ss ++ [s]).length := (List.getElem?_eq_some_iff.1 h1).1
    rw [List.length_append, List.length_singleton] at hj
    by_cases e : j < ss.length
    · rw [List.getElem?_append_left e] at h1
      rw [List.getElem?_append_left (by omega)] at h2
      have := hi j t x h1 h2
      exact World.ownsRow.kept this hg (types_apart this ho (by decide))
    · obtain rfl : j = ss.length := by omega
      have e1 : (ss ++ [s])[ss.length]? = some s := by simp
      have e2 : (vs ++ [u])[ss.length]? = some u := by rw [← hl]; simp
      rw [e1] at h1; rw [e2] at h2
      obtain rfl := Option.some.inj h1
      obtain rfl := Option.some.inj h2
      exact World.ownsRow.kept hu hg (types_apart hu ho (by decide))

/-- The cells of a list of patterns whose cells' slices are vs. -/
def flatP : List Pt → List Value → List Value
  | s :: ss, u :: vs => .int .i64 s.1 :: u :: flatP ss vs
  | _, _ => []
theorem flatP_length : ∀ (ss : List Pt) (vs : List Value), vs.length = ss.length → (flatP ss vs).length = ss.length * 2
  | [], [], _ => rfl
  | s :: ss, u :: vs, h => by
    have := flatP_length ss vs (by simpa using h)
    simp [flatP, this]; omega
  | [], _ :: _, h => by simp at h
  | _ :: _, [], h => by simp at h
theorem flatP_snoc : ∀ (ss : List Pt) (vs : List Value) (s : Pt) (u : Value), vs.length = ss.length → flatP (ss ++ [s]) (vs ++ [u]) = flatP ss vs ++ [.int .i64 s.1, u]
  | [], [], _, _, _ => rfl
  | t :: ss, x :: vs, s, u, h => by
    have := flatP_snoc ss vs s u (by simpa using h)
    simp [flatP, this]
  | [], _ :: _, _, _, h => by simp at h
  | _ :: _, [], _, _, h => by simp at h
theorem flatP_get : ∀ (ss : List Pt) (vs : List Value) (j : Nat) (s : Pt) (u : Value), ss[j]? = some s → vs[j]? = some u → (flatP ss vs)[j * 2]? = some (.int .i64 s.1) ∧ (flatP ss vs)[j * 2 + 1]? = some u
  | [], _, _, _, _, h, _ => by simp at h
  | _ :: _, [], _, _, _, _, h => by simp at h
  | t :: ss, x :: vs, 0, s, u, h1, h2 => by simp at h1 h2; subst h1 h2; exact ⟨rfl, rfl⟩
  | t :: ss, x :: vs, j + 1, s, u, h1, h2 => by
    have := flatP_get ss vs j s u (by simpa using h1) (by simpa using h2)
    rw [show (j + 1) * 2 = j * 2 + 1 + 1 by omega]
    exact this

/-- A list of patterns of the call's own, each with cells of its own, all from block B on. -/
def OwnPats (w : World) (B : Nat) (v : Value) (ss : List Pt) : Prop :=
  ∃ vs : List Value, vs.length = ss.length ∧ w.ownsRow B 39 2 v ss.length (flatP ss vs) ∧ ∀ (j : Nat) (s : Pt) (u : Value), ss[j]? = some s → vs[j]? = some u → OwnSlots w B u s.2
theorem OwnPats.nil (w : World) (B : Nat) : OwnPats w B (.slice none 0 0) [] := ⟨[], rfl, World.ownsRow_nil _ _ _ _, fun j s u h => by simp at h⟩
theorem OwnPats.at {w : World} {B : Nat} {v : Value} {ss : List Pt} (h : OwnPats w B v ss) : PatsAt w w.heap.size v ss := by
  obtain ⟨vs, hl, ho, hi⟩ := h
  rcases Joins.ownsRow_forms ho with ⟨rfl, h0⟩ | ⟨g, cap, rfl⟩
  · obtain rfl := List.length_eq_zero_iff.1 h0
    exact ⟨none, 0, rfl, .inl rfl⟩
  · refine ⟨_, cap, rfl, .inr ⟨g, 0, rfl, (ho.lt g rfl).2, fun j s hj => ?_⟩⟩
    have hj' : j < ss.length := (List.getElem?_eq_some_iff.1 hj).1
    obtain ⟨u, hu⟩ : ∃ u, vs[j]? = some u := ⟨vs[j]'(by omega), List.getElem?_eq_getElem (by omega)⟩
    have hf := flatP_get ss vs j s u hj hu
    have ho2 := hi j s u hj hu
    refine ⟨u, ?_, ?_, ho2.at⟩
    · rw [Nat.zero_add, World.ownsRow.cellAt ho (j * 2) (by omega)]; exact hf.1
    · rw [Nat.zero_add, World.ownsRow.cellAt ho (j * 2 + 1) (by omega)]; exact hf.2

/-- The list of patterns outlives what grows elsewhere. -/
theorem OwnPats.kept {w w' : World} {B : Nat} {v : Value} {ss : List Pt} {r : Option Nat} (h : OwnPats w B v ss) (hr : r = none ∨ ∃ k, r = some k ∧ w.heap.size ≤ k) (hg : w.grownBy w' r) : OwnPats w' B v ss := by
  obtain ⟨vs, hl, ho, hi⟩ := h
  exact ⟨vs, hl, ho.kept hg (lt_of_own ho hr), fun j s u h1 h2 => (hi j s u h1 h2).kept hg (lt_of_own (hi j s u h1 h2) hr)⟩
theorem OwnPats.heap {w w' : World} {B : Nat} {v : Value} {ss : List Pt} (h : OwnPats w B v ss) (e : w'.heap = w.heap) : OwnPats w' B v ss := by
  obtain ⟨vs, hl, ho, hi⟩ := h
  refine ⟨vs, hl, ?_, fun j s u h1 h2 => ?_⟩
  · unfold World.ownsRow at *; rw [e]; exact ho
  · have := hi j s u h1 h2; unfold OwnSlots World.ownsRow at *; rw [e]; exact this

/-- One pattern more, whose cells are the call's own. -/
theorem OwnPats.snoc {w w2 : World} {B : Nat} {v v' u : Value} {ss : List Pt} {s : Pt} {vs : List Value} (hl : vs.length = ss.length) (ho : w.ownsRow B 39 2 v ss.length (flatP ss vs))
    (hi : ∀ (j : Nat) (s : Pt) (u : Value), ss[j]? = some s → vs[j]? = some u → OwnSlots w B u s.2) (hu : OwnSlots w B u s.2)
    (hown2 : w2.ownsRow B 39 2 v' (ss.length + 1) (flatP ss vs ++ [.int .i64 s.1, u])) (hg : w.grownBy w2 v.ownBlock) : OwnPats w2 B v' (ss ++ [s]) := by
  refine ⟨vs ++ [u], by simp [hl], ?_, fun j t x h1 h2 => ?_⟩
  · rw [flatP_snoc _ _ _ _ hl, List.length_append, List.length_singleton]; exact hown2
  · have hj : j < (ss ++ [s]).length := (List.getElem?_eq_some_iff.1 h1).1
    rw [List.length_append, List.length_singleton] at hj
    by_cases e : j < ss.length
    · rw [List.getElem?_append_left e] at h1
      rw [List.getElem?_append_left (by omega)] at h2
      have := hi j t x h1 h2
      exact World.ownsRow.kept this hg (types_apart this ho (by decide))
    · obtain rfl : j = ss.length := by omega
      have e1 : (ss ++ [s])[ss.length]? = some s := by simp
      have e2 : (vs ++ [u])[ss.length]? = some u := by rw [← hl]; simp
      rw [e1] at h1; rw [e2] at h2
      obtain rfl := Option.some.inj h1
      obtain rfl := Option.some.inj h2
      exact World.ownsRow.kept hu hg (types_apart hu ho (by decide))


theorem OwnRws.up {w w' : World} {B : Nat} {v : Value} {l : List Shp} (h : OwnRws w B v l) (hb : Below w.heap.size w w') : OwnRws w' B v l :=
  h.kept (.inl rfl) ⟨hb.os, hb.tape, hb.output, hb.size, fun k hk _ => hb.block k hk⟩
theorem OwnPats.up {w w' : World} {B : Nat} {v : Value} {l : List Pt} (h : OwnPats w B v l) (hb : Below w.heap.size w w') : OwnPats w' B v l :=
  h.kept (.inl rfl) ⟨hb.os, hb.tape, hb.output, hb.size, fun k hk _ => hb.block k hk⟩
/-- A net's call leaves rows that are not the net's. -/
theorem OwnRws.turned {w w' : World} {G : Nat → Nat} {B : Nat} {v : Value} {l : List Shp} (h : OwnRws w B v l) (ht : Turned G w w') (hG : ∀ k, B ≤ k → G k < 2) : OwnRws w' B v l := by
  obtain ⟨vs, hl, ho, hi⟩ := h
  exact ⟨vs, hl, row_keep ho (fun k hk => ht.block k (World.ownsRow.lt ho k hk).2 (hG k (World.ownsRow.lt ho k hk).1)),
    fun j s u h1 h2 => row_keep (hi j s u h1 h2) (fun k hk => ht.block k (World.ownsRow.lt (hi j s u h1 h2) k hk).2 (hG k (World.ownsRow.lt (hi j s u h1 h2) k hk).1))⟩
theorem OwnRws.form {w : World} {B : Nat} {v : Value} {l : List Shp} (h : OwnRws w B v l) : ∃ a c, v = .slice a l.length c ∧ (l ≠ [] → ∃ g, a = some ⟨g, 0, none⟩) := by
  obtain ⟨vs, hl, ho, _⟩ := h
  rcases Joins.ownsRow_forms ho with ⟨rfl, h0⟩ | ⟨g, cap, rfl⟩
  · exact ⟨none, 0, by rw [h0], fun hn => absurd (List.length_eq_zero_iff.1 h0) hn⟩
  · exact ⟨some ⟨g, 0, none⟩, cap, rfl, fun _ => ⟨g, rfl⟩⟩
/-- The row number i. -/
theorem OwnRws.get {w : World} {B g n c : Nat} {l : List Shp} (h : OwnRws w B (.slice (some ⟨g, 0, none⟩) n c) l) {i : Nat} {r : Shp} (hi : l[i]? = some r) :
    (B ≤ g ∧ g < w.heap.size) ∧ ∃ u, w.cell? ⟨g, i * 2, none⟩ = some (.int .i64 r.pred) ∧ w.cell? ⟨g, i * 2 + 1, none⟩ = some u ∧ OwnInts w B u r.cells := by
  obtain ⟨vs, hl, ho, hin⟩ := h
  have hil : i < l.length := (List.getElem?_eq_some_iff.1 hi).1
  obtain ⟨u, hu⟩ : ∃ u, vs[i]? = some u := ⟨vs[i]'(by omega), List.getElem?_eq_getElem (by omega)⟩
  have hf := flat_get l vs i r u hi hu
  have e : n = l.length := by
    rcases Joins.ownsRow_forms ho with ⟨h1, _⟩ | ⟨g', cap, h1⟩
    · cases h1
    · simp only [Value.slice.injEq] at h1; exact h1.2.1
  rw [e] at ho
  refine ⟨World.ownsRow.lt ho g rfl, u, ?_, ?_, hin i r u hi hu⟩
  · rw [World.ownsRow.cellAt ho (i * 2) (by omega)]; exact hf.1
  · rw [World.ownsRow.cellAt ho (i * 2 + 1) (by omega)]; exact hf.2
theorem one_pat (p : Int) {w : World} {B : Nat} {u : Value} {l : List Slt} (h : OwnSlots w B u l) : ∀ x ∈ [Value.int .i64 p, u], x.oneCell' = true := by
  obtain ⟨a, n, c, rfl⟩ := h.form
  intro x hx
  simp only [List.mem_cons, List.not_mem_nil, or_false] at hx
  rcases hx with rfl | rfl <;> rfl
theorem Try.info39 : (Try.prog.info? 39).map (fun i => (i.zero, i.size, i.bytes)) = some (some (.agg #[.int .i64 0, .slice none 0 0]), 2, 32) := by kernel_rfl
theorem Try.info33 : (Try.prog.info? 33).map (fun i => (i.zero, i.size, i.bytes)) = some (some (.agg #[.int .i64 0, .slice none 0 0]), 2, 32) := by kernel_rfl

end Go.Proofs.Ytlandkindbmbfaa
