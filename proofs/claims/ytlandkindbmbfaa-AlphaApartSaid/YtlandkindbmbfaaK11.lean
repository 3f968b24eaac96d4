/-
  The state of the walk of edictlaw10.usual. No condition beyond those that each lemma states.
-/
import Derived.Test.YtlandkindbmbfaaW10
namespace Go.Proofs.Ytlandkindbmbfaa
open Go.RowKit Plain

theorem Try.size33 : (Try.prog.info? 33).map (·.size) = some 2 := by kernel_rfl
/-- The state of the loop: the argument's box, the result's cells, the row that grows. -/
structure RS (w : World) (q : Value) (p : Int) (out : List Int) (v : Value) (wr : World) : Prop where
  below : Below w.heap.size w wr
  size : w.heap.size + 3 ≤ wr.heap.size
  box : wr.heap[w.heap.size]? = some (.cells #[q, v] 33 (0, 0)) → True
  res : wr.heap[w.heap.size + 1]? = some (.cells #[.int .i64 0, .slice none 0 0] 33 (0, 0))
  var : wr.heap[w.heap.size + 2]? = some (.cells #[.int .i64 p, v] 33 (0, 0))
  own : wr.ownsRow (w.heap.size + 3) 3 1 v out.length (lits out)

section
variable {w wr w1 : World} {p : Int} {out : List Int} {v v' : Value} {n : Int} {a0 a1 : Value}
/-- .. with the argument's box. -/
def RSB (w : World) (a0 a1 : Value) (p : Int) (out : List Int) (v : Value) (wr : World) : Prop := RS w .nilIface p out v wr ∧ wr.heap[w.heap.size]? = some (.cells #[a0, a1] 33 (0, 0))
theorem RSB.alloc (h : RSB w a0 a1 p out v wr) (o : Obj) : RSB w a0 a1 p out v (wr.alloc o) := by
  obtain ⟨h, hb⟩ := h
  have hz := h.size
  have hg := World.grownBy_alloc wr o none
  exact ⟨⟨h.below.alloc (by omega) o, by simp; omega, fun _ => trivial, (hg.block _ (by omega) (by simp)).trans h.res, (hg.block _ (by omega) (by simp)).trans h.var, h.own.alloc o⟩, (hg.block _ (by omega) (by simp)).trans hb⟩
theorem RSB.carg (h : RSB w a0 a1 p out v wr) : wr.cell? ⟨w.heap.size, 1, none⟩ = some a1 := by have := h.2; simp only [World.cell?, this]; rfl
theorem RSB.cvar (h : RSB w a0 a1 p out v wr) : wr.cell? ⟨w.heap.size + 2, 1, none⟩ = some v := by have := h.1.var; simp only [World.cell?, this]; rfl
theorem RSB.grown (h : RSB w a0 a1 p out v wr) (hg : wr.grownBy w1 v.ownBlock) : w1.heap[w.heap.size + 2]? = some (.cells #[.int .i64 p, v] 33 (0, 0)) :=
  (hg.block _ (by have := h.1.size; omega) (own_ge h.1.own (by omega))).trans h.1.var
theorem rvar_of (h : w1.heap[w.heap.size + 2]? = some (.cells #[.int .i64 p, v] 33 (0, 0))) : w1.cell? ⟨w.heap.size + 2, 1, none⟩ = some v := by simp only [World.cell?, h]; rfl
theorem rfre_of (h : w1.heap[w.heap.size + 2]? = some (.cells #[.int .i64 p, v] 33 (0, 0))) : w1.frozen? ⟨w.heap.size + 2, 1, none⟩ = false := by simp only [World.frozen?, h]; rfl
/-- Behind the append and the store of what it gave. -/
theorem RSB.push (h : RSB w a0 a1 p out v wr) (hown' : w1.ownsRow (w.heap.size + 3) 3 1 v' (out.length + 1) (lits out ++ [.int .i64 n])) (hg : wr.grownBy w1 v.ownBlock) :
    RSB w a0 a1 p (out ++ [n]) v' (w1.setCell ⟨w.heap.size + 2, 1, none⟩ v') := by
  obtain ⟨h, hb⟩ := h
  have hz := h.size
  refine ⟨⟨(h.below.grown hg (by omega) (fun k hk => by have := (h.own.lt k hk).1; omega)).setCell (p := ⟨w.heap.size + 2, 1, none⟩) (show w.heap.size ≤ w.heap.size + 2 by omega) _, by have := hg.size; simp [World.setCell]; omega, fun _ => trivial, ?_, ?_, ?_⟩, ?_⟩
  · rw [Below.heap_setCell _ _ _ _ (by simp)]; exact (hg.block _ (by omega) (own_ge h.own (by omega))).trans h.res
  · exact block_setCell ((hg.block _ (by omega) (own_ge h.own (by omega))).trans h.var)
  · have := ownsRow_setCell_below hown' (a := ⟨w.heap.size + 2, 1, none⟩) (show w.heap.size + 2 < w.heap.size + 3 by omega) v'
    rw [lits_snoc, List.length_append, List.length_singleton]; exact this
  · rw [Below.heap_setCell _ _ _ _ (by simp)]; exact (hg.block _ (by omega) (own_ge h.own (by omega))).trans hb
theorem RSB.start (w : World) (a0 a1 : Value) (p : Int) : RSB w a0 a1 p [] (.slice none 0 0) (((w.alloc (.cells #[a0, a1] 33)).alloc (.cells #[.int .i64 0, .slice none 0 0] 33)).alloc (.cells #[.int .i64 p, .slice none 0 0] 33)) := by
  obtain ⟨w0, h0⟩ : ∃ w0, w0 = w.alloc (.cells #[a0, a1] 33) := ⟨_, rfl⟩
  obtain ⟨w1, h1⟩ : ∃ w1, w1 = w0.alloc (.cells #[.int .i64 0, .slice none 0 0] 33) := ⟨_, rfl⟩
  have z0 : w0.heap.size = w.heap.size + 1 := by rw [h0]; simp
  have z1 : w1.heap.size = w.heap.size + 2 := by rw [h1]; simp; omega
  rw [← h0, ← h1]
  have b0 : w0.heap[w.heap.size]? = some (.cells #[a0, a1] 33 (0, 0)) := by rw [h0]; exact heap_alloc_new _ _
  have b1 : w1.heap[w.heap.size + 1]? = some (.cells #[.int .i64 0, .slice none 0 0] 33 (0, 0)) := by rw [h1, ← z0]; exact heap_alloc_new _ _
  refine ⟨⟨?_, by simp; omega, fun _ => trivial, ?_, ?_, World.ownsRow_nil _ _ _ _⟩, ?_⟩
  · rw [h1, h0]
    exact (((Below.refl _ _).alloc (Nat.le_refl _) _).alloc (by simp) _).alloc (by simp; omega) _
  · rw [Below.heap_alloc _ _ _ (by omega)]; exact b1
  · rw [← z1]; exact heap_alloc_new _ _
  · rw [Below.heap_alloc _ _ _ (by omega), h1, Below.heap_alloc _ _ _ (by omega)]; exact b0
/-- The end: the row is copied into the result. -/
theorem RSB.stop (h : RSB w a0 a1 p out v wr) : ((wr.setCell ⟨w.heap.size + 1, 0, none⟩ (.int .i64 p)).setCell ⟨w.heap.size + 1, 1, none⟩ v).heap[w.heap.size + 1]? = some (.cells #[.int .i64 p, v] 33 (0, 0)) ∧
    OwnInts ((wr.setCell ⟨w.heap.size + 1, 0, none⟩ (.int .i64 p)).setCell ⟨w.heap.size + 1, 1, none⟩ v) w.heap.size v out ∧ Below w.heap.size w ((wr.setCell ⟨w.heap.size + 1, 0, none⟩ (.int .i64 p)).setCell ⟨w.heap.size + 1, 1, none⟩ v) := by
  refine ⟨block_setCell (block_setCell h.1.res), ?_, (h.1.below.setCell (p := ⟨w.heap.size + 1, 0, none⟩) (show w.heap.size ≤ w.heap.size + 1 by omega) _).setCell (p := ⟨w.heap.size + 1, 1, none⟩) (show w.heap.size ≤ w.heap.size + 1 by omega) _⟩
  have h1 := ownsRow_setCell_below (ownsRow_setCell_below h.1.own (a := ⟨w.heap.size + 1, 0, none⟩) (show w.heap.size + 1 < w.heap.size + 3 by omega) (.int .i64 p)) (a := ⟨w.heap.size + 1, 1, none⟩) (show w.heap.size + 1 < w.heap.size + 3 by omega) v
  exact World.ownsRow.mono h1 (by omega)
end

end Go.Proofs.Ytlandkindbmbfaa
