/-
  Patterns that the call makes: a list of slots of its own, held in a pattern variable, grown by one slot a round. No condition beyond those that each lemma states.
-/
import Derived.Test.YtlandkindbmbfaaW9
namespace Go.Proofs.Ytlandkindbmbfaa
open Go.RowKit Plain

/-- The cells of a list of slots. -/
def slits : List Slt → List Value
  | [] => []
  | a :: l => .bool a.1 :: .int .i64 a.2 :: slits l
theorem slits_length : ∀ l : List Slt, (slits l).length = l.length * 2
  | [] => rfl
  | a :: l => by simp [slits, slits_length l]; omega
theorem slits_snoc : ∀ (l : List Slt) (a : Slt), slits (l ++ [a]) = slits l ++ [.bool a.1, .int .i64 a.2]
  | [], _ => rfl
  | b :: l, a => by simp [slits, slits_snoc l a]
theorem slits_get : ∀ (l : List Slt) (j : Nat) (b : Bool) (n : Int), l[j]? = some (b, n) → (slits l)[j * 2]? = some (.bool b) ∧ (slits l)[j * 2 + 1]? = some (.int .i64 n)
  | [], _, _, _, h => by simp at h
  | a :: l, 0, b, n, h => by simp at h; subst h; exact ⟨rfl, rfl⟩
  | a :: l, j + 1, b, n, h => by
    have := slits_get l j b n (by simpa using h)
    rw [show (j + 1) * 2 = j * 2 + 1 + 1 by omega]
    exact this
def OwnSlots (w : World) (B : Nat) (v : Value) (l : List Slt) : Prop := w.ownsRow B 53 2 v l.length (slits l)
theorem OwnSlots.nil (w : World) (B : Nat) : OwnSlots w B (.slice none 0 0) [] := World.ownsRow_nil _ _ _ _
theorem OwnSlots.at {w : World} {B : Nat} {v : Value} {l : List Slt} (h : OwnSlots w B v l) : SlotsAt w w.heap.size v l := by
  rcases Joins.ownsRow_forms h with ⟨rfl, h0⟩ | ⟨g, cap, rfl⟩
  · obtain rfl := List.length_eq_zero_iff.1 h0
    exact ⟨none, 0, rfl, .inl rfl⟩
  · refine ⟨_, cap, rfl, .inr ⟨g, 0, rfl, (h.lt g rfl).2, fun j b n hj => ?_⟩⟩
    have hj' : j < l.length := (List.getElem?_eq_some_iff.1 hj).1
    have hf := slits_get l j b n hj
    rw [Nat.zero_add]
    exact ⟨by rw [World.ownsRow.cellAt h (j * 2) (by omega)]; exact hf.1, by rw [World.ownsRow.cellAt h (j * 2 + 1) (by omega)]; exact hf.2⟩
theorem OwnSlots.form {w : World} {B : Nat} {v : Value} {l : List Slt} (h : OwnSlots w B v l) : ∃ a n c, v = .slice a n c := by
  rcases Joins.ownsRow_forms h with ⟨rfl, _⟩ | ⟨g, cap, rfl⟩
  · exact ⟨_, _, _, rfl⟩
  · exact ⟨_, _, _, rfl⟩
theorem Try.info53 : (Try.prog.info? 53).map (fun i => (i.zero, i.size, i.bytes)) = some (some (.agg #[.bool false, .int .i64 0]), 2, 16) := by kernel_rfl
theorem Try.size39 : (Try.prog.info? 39).map (·.size) = some 2 := by kernel_rfl
theorem one_slot (b : Bool) (n : Int) : ∀ u ∈ [Value.bool b, Value.int .i64 n], u.oneCell' = true := by
  intro u hu
  simp only [List.mem_cons, List.not_mem_nil, or_false] at hu
  rcases hu with rfl | rfl <;> rfl

/-- What the functions answer that make a pattern. -/
def PatIs (p : Int) (l : List Slt) (w : World) (e : Ending) (w' : World) : Prop := ∃ v, e = .returned (.agg #[.int .i64 p, v]) ∧ OwnSlots w' w.heap.size v l ∧ Below w.heap.size w w'

/-- The state of the loop: the argument's box, the result's cells, the pattern q that grows. -/
structure PS (w : World) (q : Value) (p : Int) (out : List Slt) (v : Value) (wr : World) : Prop where
  below : Below w.heap.size w wr
  size : w.heap.size + 3 ≤ wr.heap.size
  box : wr.heap[w.heap.size]? = some (.cells #[q, v] 39 (0, 0)) → True
  res : wr.heap[w.heap.size + 1]? = some (.cells #[.int .i64 0, .slice none 0 0] 39 (0, 0))
  var : wr.heap[w.heap.size + 2]? = some (.cells #[.int .i64 p, v] 39 (0, 0))
  own : wr.ownsRow (w.heap.size + 3) 53 2 v out.length (slits out)

section
variable {w wr w1 : World} {p : Int} {out : List Slt} {v v' : Value} {b : Bool} {n : Int} {a0 a1 : Value}
/-- .. with the argument's box. -/
def PSB (w : World) (a0 a1 : Value) (p : Int) (out : List Slt) (v : Value) (wr : World) : Prop := PS w .nilIface p out v wr ∧ wr.heap[w.heap.size]? = some (.cells #[a0, a1] 39 (0, 0))
theorem PSB.alloc (h : PSB w a0 a1 p out v wr) (o : Obj) : PSB w a0 a1 p out v (wr.alloc o) := by
  obtain ⟨h, hb⟩ := h
  have hz := h.size
  have hg := World.grownBy_alloc wr o none
  exact ⟨⟨h.below.alloc (by omega) o, by simp; omega, fun _ => trivial, (hg.block _ (by omega) (by simp)).trans h.res, (hg.block _ (by omega) (by simp)).trans h.var, h.own.alloc o⟩, (hg.block _ (by omega) (by simp)).trans hb⟩
theorem PSB.carg (h : PSB w a0 a1 p out v wr) : wr.cell? ⟨w.heap.size, 1, none⟩ = some a1 := by have := h.2; simp only [World.cell?, this]; rfl
theorem PSB.cvar (h : PSB w a0 a1 p out v wr) : wr.cell? ⟨w.heap.size + 2, 1, none⟩ = some v := by have := h.1.var; simp only [World.cell?, this]; rfl
theorem PSB.grown (h : PSB w a0 a1 p out v wr) (hg : wr.grownBy w1 v.ownBlock) : w1.heap[w.heap.size + 2]? = some (.cells #[.int .i64 p, v] 39 (0, 0)) :=
  (hg.block _ (by have := h.1.size; omega) (own_ge h.1.own (by omega))).trans h.1.var
theorem pvar_of (h : w1.heap[w.heap.size + 2]? = some (.cells #[.int .i64 p, v] 39 (0, 0))) : w1.cell? ⟨w.heap.size + 2, 1, none⟩ = some v := by simp only [World.cell?, h]; rfl
theorem pfre_of (h : w1.heap[w.heap.size + 2]? = some (.cells #[.int .i64 p, v] 39 (0, 0))) : w1.frozen? ⟨w.heap.size + 2, 1, none⟩ = false := by simp only [World.frozen?, h]; rfl
/-- Behind the append and the store of what it gave. -/
theorem PSB.push (h : PSB w a0 a1 p out v wr) (hown' : w1.ownsRow (w.heap.size + 3) 53 2 v' (out.length + 1) (slits out ++ [.bool b, .int .i64 n])) (hg : wr.grownBy w1 v.ownBlock) :
    PSB w a0 a1 p (out ++ [(b, n)]) v' (w1.setCell ⟨w.heap.size + 2, 1, none⟩ v') := by
  obtain ⟨h, hb⟩ := h
  have hz := h.size
  refine ⟨⟨(h.below.grown hg (by omega) (fun k hk => by have := (h.own.lt k hk).1; omega)).setCell (p := ⟨w.heap.size + 2, 1, none⟩) (show w.heap.size ≤ w.heap.size + 2 by omega) _, by have := hg.size; simp [World.setCell]; omega, fun _ => trivial, ?_, ?_, ?_⟩, ?_⟩
  · rw [Below.heap_setCell _ _ _ _ (by simp)]; exact (hg.block _ (by omega) (own_ge h.own (by omega))).trans h.res
  · exact block_setCell ((hg.block _ (by omega) (own_ge h.own (by omega))).trans h.var)
  · have := ownsRow_setCell_below hown' (a := ⟨w.heap.size + 2, 1, none⟩) (show w.heap.size + 2 < w.heap.size + 3 by omega) v'
    rw [slits_snoc, List.length_append, List.length_singleton]; exact this
  · rw [Below.heap_setCell _ _ _ _ (by simp)]; exact (hg.block _ (by omega) (own_ge h.own (by omega))).trans hb
theorem PSB.start (w : World) (a0 a1 : Value) (p : Int) : PSB w a0 a1 p [] (.slice none 0 0) (((w.alloc (.cells #[a0, a1] 39)).alloc (.cells #[.int .i64 0, .slice none 0 0] 39)).alloc (.cells #[.int .i64 p, .slice none 0 0] 39)) := by
  obtain ⟨w0, h0⟩ : ∃ w0, w0 = w.alloc (.cells #[a0, a1] 39) := ⟨_, rfl⟩
  obtain ⟨w1, h1⟩ : ∃ w1, w1 = w0.alloc (.cells #[.int .i64 0, .slice none 0 0] 39) := ⟨_, rfl⟩
  have z0 : w0.heap.size = w.heap.size + 1 := by rw [h0]; simp
  have z1 : w1.heap.size = w.heap.size + 2 := by rw [h1]; simp; omega
  rw [← h0, ← h1]
  have b0 : w0.heap[w.heap.size]? = some (.cells #[a0, a1] 39 (0, 0)) := by rw [h0]; exact heap_alloc_new _ _
  have b1 : w1.heap[w.heap.size + 1]? = some (.cells #[.int .i64 0, .slice none 0 0] 39 (0, 0)) := by rw [h1, ← z0]; exact heap_alloc_new _ _
  refine ⟨⟨?_, by simp; omega, fun _ => trivial, ?_, ?_, World.ownsRow_nil _ _ _ _⟩, ?_⟩
  · rw [h1, h0]
    exact (((Below.refl _ _).alloc (Nat.le_refl _) _).alloc (by simp) _).alloc (by simp; omega) _
  · rw [Below.heap_alloc _ _ _ (by omega)]; exact b1
  · rw [← z1]; exact heap_alloc_new _ _
  · rw [Below.heap_alloc _ _ _ (by omega), h1, Below.heap_alloc _ _ _ (by omega)]; exact b0
/-- The end: the pattern is copied into the result. -/
theorem PSB.stop (h : PSB w a0 a1 p out v wr) : ((wr.setCell ⟨w.heap.size + 1, 0, none⟩ (.int .i64 p)).setCell ⟨w.heap.size + 1, 1, none⟩ v).heap[w.heap.size + 1]? = some (.cells #[.int .i64 p, v] 39 (0, 0)) ∧
    OwnSlots ((wr.setCell ⟨w.heap.size + 1, 0, none⟩ (.int .i64 p)).setCell ⟨w.heap.size + 1, 1, none⟩ v) w.heap.size v out ∧ Below w.heap.size w ((wr.setCell ⟨w.heap.size + 1, 0, none⟩ (.int .i64 p)).setCell ⟨w.heap.size + 1, 1, none⟩ v) := by
  refine ⟨block_setCell (block_setCell h.1.res), ?_, (h.1.below.setCell (p := ⟨w.heap.size + 1, 0, none⟩) (show w.heap.size ≤ w.heap.size + 1 by omega) _).setCell (p := ⟨w.heap.size + 1, 1, none⟩) (show w.heap.size ≤ w.heap.size + 1 by omega) _⟩
  have h1 := ownsRow_setCell_below (ownsRow_setCell_below h.1.own (a := ⟨w.heap.size + 1, 0, none⟩) (show w.heap.size + 1 < w.heap.size + 3 by omega) (.int .i64 p)) (a := ⟨w.heap.size + 1, 1, none⟩) (show w.heap.size + 1 < w.heap.size + 3 by omega) v
  exact World.ownsRow.mono h1 (by omega)
end

end Go.Proofs.Ytlandkindbmbfaa
