/-
  What the walks are told of patterns in memory, and what the two Shape functions answer. No condition beyond those that each lemma states.
-/
import Derived.Test.YtlandkindbmbfaaW8
import Derived.Test.YtlandkindbmbfaaPlain3
import Derived.Maps.OwnSet
import Derived.Maps.Views
namespace Go.Proofs.Ytlandkindbmbfaa
open Go.RowKit Plain

/-- A slice value that reads as the slots l, all below block B. -/
def SlotsAt (w : World) (B : Nat) (v : Value) (l : List Slt) : Prop :=
  ∃ (a : Option Addr) (cap : Nat), v = .slice a l.length cap ∧ (l = [] ∨ ∃ g off, a = some ⟨g, off, none⟩ ∧ g < B ∧
    ∀ (j : Nat) (b : Bool) (n : Int), l[j]? = some (b, n) → w.cell? ⟨g, off + j * 2, none⟩ = some (.bool b) ∧ w.cell? ⟨g, off + j * 2 + 1, none⟩ = some (.int .i64 n))
/-- The numbers are ints. -/
def I64l (l : List Slt) : Prop := ∀ a, a ∈ l → -9223372036854775808 ≤ a.2 ∧ a.2 ≤ 9223372036854775807

theorem SlotsAt.below {w w' : World} {B : Nat} {v : Value} {l : List Slt} (h : SlotsAt w B v l) (hb : Below B w w') : SlotsAt w' B v l := by
  obtain ⟨a, cap, rfl, h⟩ := h
  refine ⟨a, cap, rfl, ?_⟩
  rcases h with rfl | ⟨g, off, rfl, hg, hc⟩
  · exact .inl rfl
  · refine .inr ⟨g, off, rfl, hg, fun j b n hj => ?_⟩
    obtain ⟨h1, h2⟩ := hc j b n hj
    exact ⟨below_cells hb hg h1, below_cells hb hg h2⟩
theorem SlotsAt.mono {w : World} {B B' : Nat} {v : Value} {l : List Slt} (h : SlotsAt w B v l) (hb : B ≤ B') : SlotsAt w B' v l := by
  obtain ⟨a, cap, rfl, h⟩ := h
  refine ⟨a, cap, rfl, ?_⟩
  rcases h with rfl | ⟨g, off, rfl, hg, hc⟩
  · exact .inl rfl
  · exact .inr ⟨g, off, rfl, by omega, hc⟩
theorem SlotsAt.get {w : World} {B g off c n : Nat} {l : List Slt} (h : SlotsAt w B (.slice (some ⟨g, off, none⟩) n c) l) {i : Nat} {b : Bool} {k : Int} (hs : l[i]? = some (b, k)) :
    g < B ∧ w.cell? ⟨g, off + i * 2, none⟩ = some (.bool b) ∧ w.cell? ⟨g, off + i * 2 + 1, none⟩ = some (.int .i64 k) := by
  obtain ⟨a, cap, e, h⟩ := h
  simp only [Value.slice.injEq] at e
  obtain ⟨rfl, rfl, rfl⟩ := e
  rcases h with rfl | ⟨g', off', h1, hg, hc⟩
  · simp at hs
  · simp only [Option.some.injEq, Addr.mk.injEq, and_true] at h1
    obtain ⟨rfl, rfl⟩ := h1
    exact ⟨hg, hc i b k hs⟩
theorem SlotsAt.form {w : World} {B : Nat} {v : Value} {l : List Slt} (h : SlotsAt w B v l) : ∃ a c, v = .slice a l.length c ∧ (l ≠ [] → ∃ g off, a = some ⟨g, off, none⟩) := by
  obtain ⟨a, cap, rfl, h⟩ := h
  refine ⟨a, cap, rfl, fun hn => ?_⟩
  obtain ⟨g, off, h1, _⟩ := h.resolve_left hn
  exact ⟨g, off, h1⟩

def ShapeIs (s : Shp) (w : World) (e : Ending) (w' : World) : Prop := ∃ v, e = .returned (.agg #[.int .i64 s.pred, v]) ∧ OwnInts w' w.heap.size v s.cells ∧ Below w.heap.size w w'

theorem block_setCell {w : World} {b o : Nat} {cs : Array Value} {t : TypeId} {f : Nat × Nat} {u : Value} (h : w.heap[b]? = some (.cells cs t f)) : (w.setCell ⟨b, o, none⟩ u).heap[b]? = some (.cells (cs.set! o u) t f) := by
  have hlt := lt_of_block h
  have h' : w.heap[b] = .cells cs t f := by simpa [Array.getElem?_eq_getElem hlt] using h
  show (w.heap.modify b _)[b]? = _
  rw [Array.getElem?_eq_getElem (by simpa using hlt), Array.getElem_modify_self, h']
  simp [Array.set!_eq_setIfInBounds]

end Go.Proofs.Ytlandkindbmbfaa
