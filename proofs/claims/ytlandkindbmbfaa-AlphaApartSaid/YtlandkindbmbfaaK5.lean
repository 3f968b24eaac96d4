/-
  Boxes: local variables that hold a shape, a pattern, a turn; what is known of them outlives whatever grows elsewhere. And the arguments that the outright laws open. No condition beyond those that each lemma states.
-/
import Derived.Test.YtlandkindbmbfaaW13
import Derived.Test.YtlandkindbmbfaaO1
namespace Go.Proofs.Ytlandkindbmbfaa
open Go.RowKit Plain

def ShBox (w : World) (X : Nat) (s : Shp) (v : Value) : Prop := w.cell? ⟨X, 0, none⟩ = some (.int .i64 s.pred) ∧ w.cell? ⟨X, 1, none⟩ = some v ∧ IntsAt w w.heap.size v s.cells ∧ X < w.heap.size
def PatBox (w : World) (X : Nat) (p : Int) (l : List Slt) (v : Value) : Prop := w.cell? ⟨X, 0, none⟩ = some (.int .i64 p) ∧ w.cell? ⟨X, 1, none⟩ = some v ∧ SlotsAt w w.heap.size v l ∧ X < w.heap.size
def TurnBox (w : World) (X : Nat) (x y z : Int) : Prop := w.cell? ⟨X, 0, none⟩ = some (.int .i64 x) ∧ w.cell? ⟨X, 1, none⟩ = some (.int .i64 y) ∧ w.cell? ⟨X, 2, none⟩ = some (.int .i64 z) ∧ X < w.heap.size
section
variable {w w' : World} {X : Nat} {s : Shp} {v : Value} {p : Int} {l : List Slt} {x y z : Int}
theorem ShBox.below (h : ShBox w X s v) (hb : Below w.heap.size w w') : ShBox w' X s v :=
  ⟨below_cells hb h.2.2.2 h.1, below_cells hb h.2.2.2 h.2.1, (h.2.2.1.below hb).mono hb.size, Nat.lt_of_lt_of_le h.2.2.2 hb.size⟩
theorem PatBox.below (h : PatBox w X p l v) (hb : Below w.heap.size w w') : PatBox w' X p l v :=
  ⟨below_cells hb h.2.2.2 h.1, below_cells hb h.2.2.2 h.2.1, (h.2.2.1.below hb).mono hb.size, Nat.lt_of_lt_of_le h.2.2.2 hb.size⟩
theorem TurnBox.below (h : TurnBox w X x y z) (hb : Below w.heap.size w w') : TurnBox w' X x y z :=
  ⟨below_cells hb h.2.2.2 h.1, below_cells hb h.2.2.2 h.2.1, below_cells hb h.2.2.2 h.2.2.1, Nat.lt_of_lt_of_le h.2.2.2 hb.size⟩
theorem up_alloc (w : World) (o : Obj) : Below w.heap.size w (w.alloc o) := (Below.refl _ _).alloc (Nat.le_refl _) o
theorem ShBox.made (h : IntsAt w w.heap.size v s.cells) : ShBox (w.alloc (.cells #[.int .i64 s.pred, v] 27)) w.heap.size s v :=
  ⟨by simp, by simp, (h.below (up_alloc w _)).mono (up_alloc w _).size, by simp⟩
theorem ShBox.made33 (h : IntsAt w w.heap.size v s.cells) : ShBox (w.alloc (.cells #[.int .i64 s.pred, v] 33)) w.heap.size s v :=
  ⟨by simp, by simp, (h.below (up_alloc w _)).mono (up_alloc w _).size, by simp⟩
theorem PatBox.made (h : SlotsAt w w.heap.size v l) : PatBox (w.alloc (.cells #[.int .i64 p, v] 39)) w.heap.size p l v :=
  ⟨by simp, by simp, (h.below (up_alloc w _)).mono (up_alloc w _).size, by simp⟩
theorem TurnBox.made : TurnBox (w.alloc (.cells #[.int .i64 x, .int .i64 y, .int .i64 z] 41)) w.heap.size x y z :=
  ⟨by simp, by simp, by simp, by simp⟩
end

/-! ### Arguments -/
def Bnd (n : Int) : Prop := -9223372036854775808 ≤ n ∧ n ≤ 9223372036854775807
def PatArg (w : World) (v : Value) (x : Int × List Slt) : Prop := ∃ u, v = .agg #[.int .i64 x.1, u] ∧ SlotsAt w w.heap.size u x.2 ∧ I64l x.2 ∧ x.2.length ≤ 8796093021952 ∧ Bnd x.1
def TurnArg (v : Value) (x : Int × Int × Int) : Prop := v = .agg #[.int .i64 x.1, .int .i64 x.2.1, .int .i64 x.2.2] ∧ Bnd x.1 ∧ Bnd x.2.1 ∧ Bnd x.2.2
def RowArg (w : World) (v : Value) (s : Shp) : Prop := ∃ u, v = .agg #[.int .i64 s.pred, u] ∧ IntsAt w w.heap.size u s.cells ∧ Nilly u ∧ Okay s ∧ s.cells.length ≤ 17592186044400

end Go.Proofs.Ytlandkindbmbfaa
