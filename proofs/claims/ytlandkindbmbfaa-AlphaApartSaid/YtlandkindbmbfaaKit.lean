/-
  What the walks of the layer of shapes are told of values in memory: slices of ints, shapes; and the posts of functions that answer a bool. No condition beyond those that each lemma states.
-/
import Derived.Test.YtlandkindbmbfaaProg
import Derived.Test.YtlandkindbmbfaaPlain
import Derived.WalkKit
import Derived.WalkLawsBesides
import Derived.WalkSpells
import Derived.Lib.Hide
import Derived.Lib.SmallJoins
import Derived.Deep.QuietTactic
import Derived.BigQuiet
import Derived.Deep.Onto
namespace Go.Proofs.Ytlandkindbmbfaa
open Go.RowKit Plain

def BoolIs (w : World) (b : Bool) (e : Ending) (w' : World) : Prop := e = .returned (.bool b) ∧ Below w.heap.size w w'

theorem ret_bool {b c : Bool} (h : b = c) : Ending.returned (.bool b) = .returned (.bool c) := by rw [h]

/-- A slice value that reads as the ints l, all below block B. -/
def IntsAt (w : World) (B : Nat) (v : Value) (l : List Int) : Prop :=
  ∃ (a : Option Addr) (cap : Nat), v = .slice a l.length cap ∧ (l = [] ∨ ∃ g off, a = some ⟨g, off, none⟩ ∧ g < B ∧ ∀ j, j < l.length → w.cell? ⟨g, off + j, none⟩ = some (.int .i64 (at' l j)))
/-- Every element is an int. -/
def I64s (l : List Int) : Prop := ∀ j : Nat, -9223372036854775808 ≤ at' l j ∧ at' l j ≤ 9223372036854775807

theorem IntsAt.below {w w' : World} {B : Nat} {v : Value} {l : List Int} (h : IntsAt w B v l) (hb : Below B w w') : IntsAt w' B v l := by
  obtain ⟨a, cap, rfl, h⟩ := h
  refine ⟨a, cap, rfl, ?_⟩
  rcases h with rfl | ⟨g, off, rfl, hg, hc⟩
  · exact .inl rfl
  · exact .inr ⟨g, off, rfl, hg, fun j hj => (hb.cell (p := ⟨g, off + j, none⟩) hg).trans (hc j hj)⟩
theorem IntsAt.mono {w : World} {B B' : Nat} {v : Value} {l : List Int} (h : IntsAt w B v l) (hb : B ≤ B') : IntsAt w B' v l := by
  obtain ⟨a, cap, rfl, h⟩ := h
  refine ⟨a, cap, rfl, ?_⟩
  rcases h with rfl | ⟨g, off, rfl, hg, hc⟩
  · exact .inl rfl
  · exact .inr ⟨g, off, rfl, by omega, hc⟩
theorem IntsAt.alloc {w : World} {B : Nat} {v : Value} {l : List Int} (h : IntsAt w B v l) (hb : B ≤ w.heap.size) (o : Obj) : IntsAt (w.alloc o) B v l :=
  h.below ((Below.refl _ _).alloc hb o)

end Go.Proofs.Ytlandkindbmbfaa
