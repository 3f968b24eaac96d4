/-
  A pattern variable whose slots are a list of the call's own, which may grow; literal lists of patterns. No condition beyond those that each lemma states.
-/
import Derived.Test.YtlandkindbmbfaaW18
import Derived.Test.YtlandkindbmbfaaPlain8
namespace Go.Proofs.Ytlandkindbmbfaa
open Go.RowKit Plain

/-- Block Q holds the pattern (p, out), whose slots v are a row of the call's own from block B on. -/
structure BX (B Q : Nat) (p : Int) (out : List Slt) (v : Value) (w : World) : Prop where
  ge : B ≤ Q
  var : w.heap[Q]? = some (.cells #[.int .i64 p, v] 39 (0, 0))
  own : w.ownsRow B 53 2 v out.length (slits out)
section
variable {w w1 : World} {B Q : Nat} {p : Int} {out : List Slt} {v v' : Value} {b : Bool} {n : Int}
theorem BX.lt (h : BX B Q p out v w) : Q < w.heap.size := lt_of_block h.var
theorem BX.up (h : BX B Q p out v w) (hb : Below w.heap.size w w1) : BX B Q p out v w1 :=
  ⟨h.ge, (hb.block Q h.lt).trans h.var, h.own.kept (w' := w1) (row := none) ⟨hb.os, hb.tape, hb.output, hb.size, fun k hk _ => hb.block k hk⟩ (lt_of_own h.own (.inl rfl))⟩
theorem BX.alloc (h : BX B Q p out v w) (o : Obj) : BX B Q p out v (w.alloc o) := h.up (up_alloc w o)
theorem BX.c0 (h : BX B Q p out v w) : w.cell? ⟨Q, 0, none⟩ = some (.int .i64 p) := by have := h.var; simp only [World.cell?, this]; rfl
theorem BX.c1 (h : BX B Q p out v w) : w.cell? ⟨Q, 1, none⟩ = some v := by have := h.var; simp only [World.cell?, this]; rfl
theorem BX.f1 (h : BX B Q p out v w) : w.frozen? ⟨Q, 1, none⟩ = false := by have := h.var; simp only [World.frozen?, this]; rfl
theorem BX.ne (h : BX B Q p out v w) : some Q ≠ v.ownBlock := by
  intro e
  rcases h.own.2 with ⟨rfl, _⟩ | ⟨g, cap, cur, rfl, _, hg, _⟩
  · simp [Value.ownBlock] at e
  · have e2 : Q = g := by simpa [Value.ownBlock] using e
    subst e2
    have := h.var
    rw [hg] at this
    simp at this
theorem BX.at (h : BX B Q p out v w) : SlotsAt w w.heap.size v out := OwnSlots.at (l := out) h.own
theorem BX.grown (h : BX B Q p out v w) (hg : w.grownBy w1 v.ownBlock) : w1.heap[Q]? = some (.cells #[.int .i64 p, v] 39 (0, 0)) := (hg.block Q h.lt h.ne).trans h.var
theorem bcell_of (h : w1.heap[Q]? = some (.cells #[.int .i64 p, v] 39 (0, 0))) : w1.cell? ⟨Q, 1, none⟩ = some v := by simp only [World.cell?, h]; rfl
theorem bfree_of (h : w1.heap[Q]? = some (.cells #[.int .i64 p, v] 39 (0, 0))) : w1.frozen? ⟨Q, 1, none⟩ = false := by simp only [World.frozen?, h]; rfl
/-- Behind the append and the store of what it gave. -/
theorem BX.push (h : BX B Q p out v w) (hown' : w1.ownsRow B 53 2 v' (out.length + 1) (slits out ++ [.bool b, .int .i64 n])) (hg : w.grownBy w1 v.ownBlock) :
    BX B Q p (out ++ [(b, n)]) v' (w1.setCell ⟨Q, 1, none⟩ v') := by
  have hv : w1.heap[Q]? = some (.cells #[.int .i64 p, v] 39 (0, 0)) := h.grown hg
  refine ⟨h.ge, block_setCell hv, ?_⟩
  have : v'.ownBlock ≠ some Q := by
    intro e
    rcases hown'.2 with ⟨rfl, _⟩ | ⟨g, cap, cur, rfl, _, hg, _⟩
    · simp [Value.ownBlock] at e
    · have e2 : g = Q := by simpa [Value.ownBlock] using e
      subst e2
      rw [hg] at hv
      simp at hv
  have h2 := ownsRow_setCell_other hown' (a := ⟨Q, 1, none⟩) this v'
  rw [slits_snoc, List.length_append, List.length_singleton]; exact h2
/-- Another pattern's variable and row stand across it. -/
theorem BX.across {B2 Q2 : Nat} {p2 : Int} {out2 : List Slt} {v2 : Value} (h : BX B2 Q2 p2 out2 v2 w) (hg : w.grownBy w1 v.ownBlock) (hQ : Q2 ≠ Q) (hv : some Q2 ≠ v.ownBlock) (hr : v2.ownBlock = none ∨ v2.ownBlock ≠ v.ownBlock) (hq1 : ∀ k, v2.ownBlock = some k → k ≠ Q) (u : Value) :
    BX B2 Q2 p2 out2 v2 (w1.setCell ⟨Q, 1, none⟩ u) := by
  refine ⟨h.ge, ?_, ownsRow_setCell_other (h.own.kept hg hr) (a := ⟨Q, 1, none⟩) (fun e => hq1 Q e rfl) u⟩
  rw [Below.heap_setCell _ _ _ _ hQ]
  exact (hg.block Q2 h.lt hv).trans h.var
theorem BX.start (hv : OwnSlots w B v out) (hB : B ≤ w.heap.size) : BX B w.heap.size p out v (w.alloc (.cells #[.int .i64 p, v] 39)) :=
  ⟨hB, heap_alloc_new w _, World.ownsRow.alloc hv _⟩
end

/-- A literal list of three patterns, of four. -/
theorem pats_three {w : World} {G : Nat} {x y z : Pt} {vx vy vz : Value} (h : w.heap[G]? = some (.cells #[.int .i64 x.1, vx, .int .i64 y.1, vy, .int .i64 z.1, vz] 39 (0, 0)))
    (hx : SlotsAt w w.heap.size vx x.2) (hy : SlotsAt w w.heap.size vy y.2) (hz : SlotsAt w w.heap.size vz z.2) : PatsAt w w.heap.size (.slice (some ⟨G, 0, none⟩) 3 3) [x, y, z] := by
  refine ⟨some ⟨G, 0, none⟩, 3, rfl, .inr ⟨G, 0, rfl, lt_of_block h, fun j t hj => ?_⟩⟩
  match j, hj with
  | 0, hj => simp at hj; subst hj; exact ⟨vx, by simp [World.cell?, h], by simp [World.cell?, h], hx⟩
  | 1, hj => simp at hj; subst hj; exact ⟨vy, by simp [World.cell?, h], by simp [World.cell?, h], hy⟩
  | 2, hj => simp at hj; subst hj; exact ⟨vz, by simp [World.cell?, h], by simp [World.cell?, h], hz⟩
  | j + 3, hj => simp at hj
theorem pats_four {w : World} {G : Nat} {x y z t : Pt} {vx vy vz vt : Value} (h : w.heap[G]? = some (.cells #[.int .i64 x.1, vx, .int .i64 y.1, vy, .int .i64 z.1, vz, .int .i64 t.1, vt] 39 (0, 0)))
    (hx : SlotsAt w w.heap.size vx x.2) (hy : SlotsAt w w.heap.size vy y.2) (hz : SlotsAt w w.heap.size vz z.2) (ht : SlotsAt w w.heap.size vt t.2) : PatsAt w w.heap.size (.slice (some ⟨G, 0, none⟩) 4 4) [x, y, z, t] := by
  refine ⟨some ⟨G, 0, none⟩, 4, rfl, .inr ⟨G, 0, rfl, lt_of_block h, fun j u hj => ?_⟩⟩
  match j, hj with
  | 0, hj => simp at hj; subst hj; exact ⟨vx, by simp [World.cell?, h], by simp [World.cell?, h], hx⟩
  | 1, hj => simp at hj; subst hj; exact ⟨vy, by simp [World.cell?, h], by simp [World.cell?, h], hy⟩
  | 2, hj => simp at hj; subst hj; exact ⟨vz, by simp [World.cell?, h], by simp [World.cell?, h], hz⟩
  | 3, hj => simp at hj; subst hj; exact ⟨vt, by simp [World.cell?, h], by simp [World.cell?, h], ht⟩
  | j + 4, hj => simp at hj

/-- One shape of a list of the call's own. -/
theorem OwnShps.one {w : World} {B : Nat} {v : Value} {ss : List Shp} (h : OwnShps w B v ss) {i : Nat} {s : Shp} (hs : ss[i]? = some s) :
    ∃ g c u, v = .slice (some ⟨g, 0, none⟩) ss.length c ∧ w.cell? ⟨g, i * 2, none⟩ = some (.int .i64 s.pred) ∧ w.cell? ⟨g, i * 2 + 1, none⟩ = some u ∧ IntsAt w w.heap.size u s.cells ∧ g < w.heap.size := by
  obtain ⟨vs, hl, ho, hi⟩ := h
  have hlt : i < ss.length := (List.getElem?_eq_some_iff.1 hs).1
  obtain ⟨g, c, rfl⟩ := Joins.ownsRow_form ho (by omega)
  obtain ⟨u, hu⟩ : ∃ u, vs[i]? = some u := ⟨vs[i]'(by omega), List.getElem?_eq_getElem (by omega)⟩
  have hf := flat_get ss vs i s u hs hu
  refine ⟨g, c, u, rfl, ?_, ?_, (hi i s u hs hu).at, (ho.lt g rfl).2⟩
  · rw [World.ownsRow.cellAt ho (i * 2) (by omega)]; exact hf.1
  · rw [World.ownsRow.cellAt ho (i * 2 + 1) (by omega)]; exact hf.2

end Go.Proofs.Ytlandkindbmbfaa
