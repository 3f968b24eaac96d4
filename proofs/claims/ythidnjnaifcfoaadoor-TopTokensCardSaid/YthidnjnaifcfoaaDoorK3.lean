/-
  The reader's block, and worlds that differ in it alone. No condition beyond those that each lemma states.
-/
import Derived.Test.YthidnjnaifcfoaaDoorW10
namespace Go.Proofs.YthidnjnaifcfoaaDoor
open Go.RowKit Go.Shelf Pl

/-- Of what there was, block X alone may have turned. -/
structure Bes (X : Nat) (w w' : World) : Prop where
  os : w'.os = w.os
  tape : w'.tape = w.tape
  output : w'.output = w.output
  size : w.heap.size ≤ w'.heap.size
  block : ∀ k, k < w.heap.size → k ≠ X → w'.heap[k]? = w.heap[k]?
section
variable {X B : Nat} {w w' w2 : World}
theorem Bes.refl (X : Nat) (w : World) : Bes X w w := ⟨rfl, rfl, rfl, Nat.le_refl _, fun _ _ _ => rfl⟩
theorem Bes.trans (h : Bes X w w') (k : Bes X w' w2) : Bes X w w2 :=
  ⟨k.os.trans h.os, k.tape.trans h.tape, k.output.trans h.output, Nat.le_trans h.size k.size, fun i hi hx => (k.block i (Nat.lt_of_lt_of_le hi h.size) hx).trans (h.block i hi hx)⟩
theorem Bes.of (h : Below w.heap.size w w') : Bes X w w' := ⟨h.os, h.tape, h.output, h.size, fun k hk _ => h.block k hk⟩
theorem Bes.below (h : Bes X w w') (hB : B ≤ X) (hw : B ≤ w.heap.size) : Below B w w' := ⟨h.os, h.tape, h.output, h.size, fun k hk => h.block k (by omega) (by omega)⟩
theorem Bes.up (h : Bes X w w') (hX : w.heap.size ≤ X) : Below w.heap.size w w' := h.below hX (Nat.le_refl _)
theorem Bes.drewN (h : Bes X w w') (n : Nat) : Bes X w (w'.drewN n) := ⟨h.os, h.tape, h.output, h.size, h.block⟩
theorem Bes.drew (h : Bes X w w') : Bes X w w'.drew := ⟨h.os, h.tape, h.output, h.size, h.block⟩
theorem Bes.alloc (h : Bes X w w') (o : Obj) : Bes X w (w'.alloc o) :=
  h.trans ⟨rfl, rfl, rfl, by simp, fun k hk _ => Below.heap_alloc _ _ _ hk⟩
theorem Bes.set (h : Bes X w w') {p : Addr} (hp : p.block = X ∨ w.heap.size ≤ p.block) (u : Value) : Bes X w (w'.setCell p u) :=
  ⟨h.os, h.tape, h.output, by simp [World.setCell]; exact h.size, fun k hk hx => (Below.heap_setCell _ _ _ _ (by omega)).trans (h.block k hk hx)⟩
end

/-- The reader's block. -/
def RdB (w : World) (X : Nat) (s : ByteArray) (a : Nat) : Prop := w.heap[X]? = some (.cells #[.string s, .int .i64 (a : Int)] 41)
section
variable {w w' : World} {X : Nat} {s : ByteArray} {a q B : Nat}
theorem RdB.rd (h : RdB w X s a) : Rd w X s a := by
  unfold RdB at h
  exact ⟨by simp only [World.cell?, h]; rfl, by simp only [World.cell?, h]; rfl⟩
theorem RdB.froz (h : RdB w X s a) : w.frozen? ⟨X, 1, none⟩ = false := by
  unfold RdB at h
  simp only [World.frozen?, h]; rfl
theorem RdB.lt (h : RdB w X s a) : X < w.heap.size := (Array.getElem?_eq_some_iff.1 h).1
theorem RdB.drewN (h : RdB w X s a) (n : Nat) : RdB (w.drewN n) X s a := h
theorem RdB.below (h : RdB w X s a) (hb : Below w.heap.size w w') : RdB w' X s a := by
  unfold RdB
  rw [hb.block _ h.lt]; exact h
theorem RdB.alloc (h : RdB w X s a) (o : Obj) : RdB (w.alloc o) X s a := h.below (up_alloc w o)
theorem RdB.set (h : RdB w X s a) : RdB (w.setCell ⟨X, 1, none⟩ (.int .i64 (q : Int))) X s q := by
  unfold RdB at h ⊢
  simp [World.setCell, Array.getElem?_modify, h]
theorem RdB.besY {Y : Nat} (h : RdB w X s a) (hb : Bes Y w w') (hY : X ≠ Y) : RdB w' X s a := by
  unfold RdB
  rw [hb.block _ h.lt hY]; exact h
/-- Where the reader stands, out of its world. -/
def atOf (w : World) (X : Nat) : Nat := match w.cell? ⟨X, 1, none⟩ with | some (.int _ v) => v.toNat | _ => 0
theorem RdB.atOf (h : RdB w X s a) : atOf w X = a := by
  unfold YthidnjnaifcfoaaDoor.atOf
  rw [h.rd.2]; rfl
end
theorem two_heap {w1 : World} {n : Nat} (o p : Obj) (h : w1.heap.size = n) : ((w1.alloc o).alloc p).heap[n]? = some o ∧ ((w1.alloc o).alloc p).heap[n + 1]? = some p := by
  subst h
  constructor
  · rw [Below.heap_alloc _ _ _ (by simp)]; exact heap_alloc_new _ _
  · have := heap_alloc_new (w1.alloc o) p
    simpa using this
theorem size_set (w : World) (a : Addr) (v : Value) : (w.setCell a v).heap.size = w.heap.size := by simp [World.setCell]
/-- The cells of a token's block, of a fault's block. -/
theorem row6 {w : World} {B : Nat} {a b c d e f : Value} (h : w.heap[B]? = some (.cells #[a, b, c, d, e, f] 32)) :
    w.cell? ⟨B, 0, none⟩ = some a ∧ w.cell? ⟨B, 1, none⟩ = some b ∧ w.cell? ⟨B, 2, none⟩ = some c ∧ w.cell? ⟨B, 3, none⟩ = some d ∧ w.cell? ⟨B, 4, none⟩ = some e ∧ w.cell? ⟨B, 5, none⟩ = some f ∧
    w.frozen? ⟨B, 0, none⟩ = false ∧ w.frozen? ⟨B, 1, none⟩ = false ∧ w.frozen? ⟨B, 2, none⟩ = false ∧ w.frozen? ⟨B, 3, none⟩ = false ∧ w.frozen? ⟨B, 4, none⟩ = false ∧ w.frozen? ⟨B, 5, none⟩ = false := by
  refine ⟨?_, ?_, ?_, ?_, ?_, ?_, ?_, ?_, ?_, ?_, ?_, ?_⟩ <;> simp only [World.cell?, World.frozen?, h] <;> rfl
theorem row3 {w : World} {B : Nat} {a b c : Value} (h : w.heap[B]? = some (.cells #[a, b, c] 25)) :
    w.cell? ⟨B, 0, none⟩ = some a ∧ w.cell? ⟨B, 1, none⟩ = some b ∧ w.cell? ⟨B, 2, none⟩ = some c ∧
    w.frozen? ⟨B, 0, none⟩ = false ∧ w.frozen? ⟨B, 1, none⟩ = false ∧ w.frozen? ⟨B, 2, none⟩ = false := by
  refine ⟨?_, ?_, ?_, ?_, ?_, ?_⟩ <;> simp only [World.cell?, World.frozen?, h] <;> rfl
/-- A token and a fault, stored one cell after the other. -/
def nine (w : World) (B C : Nat) (x0 x1 x2 x3 x4 x5 y0 y1 y2 : Value) : World :=
  ((((((((w.setCell ⟨B, 0, none⟩ x0).setCell ⟨B, 1, none⟩ x1).setCell ⟨B, 2, none⟩ x2).setCell ⟨B, 3, none⟩ x3).setCell ⟨B, 4, none⟩ x4).setCell ⟨B, 5, none⟩ x5).setCell ⟨C, 0, none⟩ y0).setCell ⟨C, 1, none⟩ y1).setCell ⟨C, 2, none⟩ y2
theorem nine_set {w : World} {B : Nat} {a b c d e f g h i x0 x1 x2 x3 x4 x5 y0 y1 y2 : Value} (q1 : w.heap[B]? = some (.cells #[a, b, c, d, e, f] 32)) (q2 : w.heap[B + 1]? = some (.cells #[g, h, i] 25)) :
    (nine w B (B + 1) x0 x1 x2 x3 x4 x5 y0 y1 y2).heap[B]? = some (.cells #[x0, x1, x2, x3, x4, x5] 32) ∧ (nine w B (B + 1) x0 x1 x2 x3 x4 x5 y0 y1 y2).heap[B + 1]? = some (.cells #[y0, y1, y2] 25) := by
  constructor <;> simp [nine, World.setCell, Array.getElem?_modify, q1, q2]
theorem nine_bes {X B C : Nat} {w w' : World} {x0 x1 x2 x3 x4 x5 y0 y1 y2 : Value} (h : Bes X w w') (hB : w.heap.size ≤ B) (hC : w.heap.size ≤ C) : Bes X w (nine w' B C x0 x1 x2 x3 x4 x5 y0 y1 y2) :=
  ((((((((h.set (.inr hB) _).set (.inr hB) _).set (.inr hB) _).set (.inr hB) _).set (.inr hB) _).set (.inr hB) _).set (.inr hC) _).set (.inr hC) _).set (.inr hC) _
theorem nine_rd {X B C a : Nat} {s : ByteArray} {w : World} {x0 x1 x2 x3 x4 x5 y0 y1 y2 : Value} (h : RdB w X s a) (hB : X ≠ B) (hC : X ≠ C) : RdB (nine w B C x0 x1 x2 x3 x4 x5 y0 y1 y2) X s a := by
  unfold RdB at h ⊢
  simp [nine, World.setCell, Array.getElem?_modify, h, Ne.symm hB, Ne.symm hC]

/-- What reading a token answers, and where the reader stands. -/
def TokIs (s : ByteArray) (X o : Nat) (w : World) (N : Nx) (e : Ending) (w' : World) : Prop :=
  (match N with
  | .fault code a => e = .returned (.tuple #[TokV 0 noS 0 0 0 0, FaultV code (s.size - a.length)])
  | .tok kind op text int rest => ∃ t : ByteArray, L t = text ∧ e = .returned (.tuple #[TokV kind t int op o (s.size - rest.length), FaultV 0 0]) ∧ RdB w' X s (s.size - rest.length)
  | .fin => e = .returned (.tuple #[TokV 0 noS 0 0 s.size s.size, FaultV 0 0])) ∧ Bes X w w'
theorem tok_end {s : ByteArray} {X o E kind op : Nat} {w W : World} {N : Nx} {text rest : List UInt8} {int : Int} {t : ByteArray} (hN : N = .tok kind op text int rest) (ht : L t = text) (hE : s.size - rest.length = E) (hr : RdB W X s E) (hb : Bes X w W) :
    TokIs s X o w N (.returned (.tuple #[TokV kind t int op o E, FaultV 0 0])) W := by
  rw [hN]
  exact ⟨⟨t, ht, by rw [hE], by rw [hE]; exact hr⟩, hb⟩
theorem fault_end {s : ByteArray} {X o c p : Nat} {w W : World} {N : Nx} {a : List UInt8} (hN : N = .fault c a) (hp : s.size - a.length = p) (hb : Bes X w W) :
    TokIs s X o w N (.returned (.tuple #[TokV 0 noS 0 0 0 0, FaultV c p])) W := by
  rw [hN]
  exact ⟨by rw [← hp], hb⟩
end Go.Proofs.YthidnjnaifcfoaaDoor
