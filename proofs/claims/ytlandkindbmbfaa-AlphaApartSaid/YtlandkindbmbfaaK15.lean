/-
  A shape or a row in a list, as a region reads it; what is not the net's while the net's calls turn. No condition beyond those that each lemma states.
-/
import Derived.Test.YtlandkindbmbfaaK14
namespace Go.Proofs.Ytlandkindbmbfaa
open Go.RowKit Plain

structure El (w : World) (g o : Nat) (s : Shp) (a : Option Addr) (c : Nat) : Prop where
  c0 : w.cell? ⟨g, o, none⟩ = some (.int .i64 s.pred)
  c1 : w.cell? ⟨g, o + 1, none⟩ = some (.slice a s.cells.length c)
  lt : g < w.heap.size
  ints : IntsAt w w.heap.size (.slice a s.cells.length c) s.cells
  nil : Nilly (.slice a s.cells.length c)
theorem El.below {w w' : World} {g o : Nat} {s : Shp} {a : Option Addr} {c : Nat} (h : El w g o s a c) (hb : Below w.heap.size w w') : El w' g o s a c :=
  ⟨below_cells hb h.lt h.c0, below_cells hb h.lt h.c1, Nat.lt_of_lt_of_le h.lt hb.size, (h.ints.below hb).mono hb.size, h.nil⟩
theorem ShpsAt.el {w : World} {B g off c n : Nat} {ss : List Shp} (h : ShpsAt w B (.slice (some ⟨g, off, none⟩) n c) ss) (hB : B ≤ w.heap.size) {j : Nat} {s : Shp} (hs : ss[j]? = some s) :
    ∃ a c', El w g (off + j * 2) s a c' := by
  obtain ⟨hg, u, c0, c1, hu, hn⟩ := ShpsAt.get h hs
  obtain ⟨a, c', rfl, _⟩ := id hu
  exact ⟨a, c', c0, c1, by omega, hu.mono hB, hn⟩
theorem OwnInts.turned {w w' : World} {G : Nat → Nat} {B : Nat} {v : Value} {l : List Int} (h : OwnInts w B v l) (ht : Turned G w w') (hG : ∀ k, B ≤ k → G k < 2) : OwnInts w' B v l :=
  row_keep h (fun k hk => ht.block k (World.ownsRow.lt h k hk).2 (hG k (World.ownsRow.lt h k hk).1))
theorem OwnRws.el {w : World} {B g c n : Nat} {l : List Shp} {G : Nat → Nat} (h : OwnRws w B (.slice (some ⟨g, 0, none⟩) n c) l) (hG : ∀ k, B ≤ k → G k < 2) {i : Nat} {r : Shp} (hi : l[i]? = some r) :
    ∃ a c', (∀ w', Turned G w w' → El w' g (i * 2) r a c') ∧ ∀ k, (Value.slice a r.cells.length c').ownBlock = some k → k < w.heap.size ∧ G k < 2 := by
  obtain ⟨⟨h1, h2⟩, u, c0, c1, hu⟩ := OwnRws.get h hi
  obtain ⟨a, c', rfl, _⟩ := id hu.at
  refine ⟨a, c', fun w' ht => ⟨(World.cell?_of_block (ht.block g h2 (hG g h1))).trans c0, (World.cell?_of_block (ht.block g h2 (hG g h1))).trans c1, Nat.lt_of_lt_of_le h2 ht.size, (hu.turned ht hG).at, hu.nilly⟩, fun k hk => ?_⟩
  have := World.ownsRow.lt hu k hk
  exact ⟨this.2, hG k this.1⟩
theorem Held.drew {wS wr : World} {G0 : Nat → Nat} {X : Nat} {mv : Value} {ms : List Nat} {ss rs : List Shp} (h : Held wS G0 X mv ms ss rs wr) : Held wS G0 X mv ms ss rs wr.drew := by
  obtain ⟨G, h1, h2, h3⟩ := h
  exact ⟨G, h1.same rfl, h2, h3.same rfl rfl rfl rfl⟩
theorem take_add {α : Type} {l : List α} {k : Nat} {a : α} (h : l[k]? = some a) : l.take k ++ [a] = l.take (k + 1) := (take_one h).symm
theorem took_mem {ss : List Shp} {j : Nat} {s r : Shp} (h : ss[j]? = some s) : decide ((j : Int) ∈ took ss r) = fitsB s r.pred r.cells := idx_mem h
theorem took_len (ss : List Shp) (r : Shp) : (took ss r).length ≤ ss.length := idx_length _

end Go.Proofs.Ytlandkindbmbfaa
