/-
  The walk of edicttop.spells, at a token's spelling. Conditions: the spelling is at most 65536 bytes long and is that token; the variables hold what the program's text lays.
-/
import Derived.Test.YthidnjnaifcfoaaDoorW18
namespace Go.Proofs.YthidnjnaifcfoaaDoor
open Go.RowKit Go.Shelf Pl

theorem of_nats {s : ByteArray} {p : List Nat} (h : (L s).map (·.toNat) = p) : s = sgB p := by
  apply of_L
  rw [← h, List.map_map]
  conv => lhs; rw [← List.map_id (L s)]
  apply List.map_congr_left
  intro a _
  simp
def TokArg (kind : Nat) (tx : ByteArray) (int : Int) (op off fin : Nat) : Value := .agg #[.int .i64 (kind : Int), .string tx, .int .i64 int, .int .i64 (op : Int), .int .i64 (off : Int), .int .i64 (fin : Int)]

set_option maxRecDepth 100000 in
set_option maxHeartbeats 3200000 in
theorem spells_no (B off fin : Nat) (w : World) (hG : Gl B w) :
    Calls Tryd.prog 14 #[.string ⟨#[110, 111, 116]⟩, .agg #[.int .i64 10, .string { data := #[] }, .int .i64 0, .int .i64 0, .int .i64 (off : Int), .int .i64 (fin : Int)]] w fun e w' => e = .returned (.bool true) ∧ Below w.heap.size w w' := by
  have hG1 := fun o : Obj => hG.below ((Below.refl B w).alloc hG.lt o)
  have hc : ∀ o : Obj, (w.alloc o).cell? ⟨2, 10, none⟩ = some (.string ⟨#[110, 111, 116]⟩) := fun o => (hG1 o).mrk 10 (by decide)
  clear hG hG1
  go_enter Tryd.func14, Tryd.ntmps14
  go_wp2
  go_ret
  exact ⟨rfl, up_alloc _ _⟩

set_option maxRecDepth 100000 in
set_option maxHeartbeats 3200000 in
theorem spells_58_45 (B off fin : Nat) (w : World) (hG : Gl B w) :
    Calls Tryd.prog 14 #[.string ⟨#[58, 45]⟩, .agg #[.int .i64 9, .string { data := #[] }, .int .i64 0, .int .i64 0, .int .i64 (off : Int), .int .i64 (fin : Int)]] w fun e w' => e = .returned (.bool true) ∧ Below w.heap.size w w' := by
  have hG1 := fun o : Obj => hG.below ((Below.refl B w).alloc hG.lt o)
  have hc : ∀ o : Obj, (w.alloc o).cell? ⟨2, 9, none⟩ = some (.string ⟨#[58, 45]⟩) := fun o => (hG1 o).mrk 9 (by decide)
  clear hG hG1
  go_enter Tryd.func14, Tryd.ntmps14
  go_wp2
  go_ret
  exact ⟨rfl, up_alloc _ _⟩

set_option maxRecDepth 100000 in
set_option maxHeartbeats 3200000 in
theorem spells_33_61 (B off fin : Nat) (w : World) (hG : Gl B w) :
    Calls Tryd.prog 14 #[.string ⟨#[33, 61]⟩, .agg #[.int .i64 11, .string { data := #[] }, .int .i64 0, .int .i64 2, .int .i64 (off : Int), .int .i64 (fin : Int)]] w fun e w' => e = .returned (.bool true) ∧ Below w.heap.size w w' := by
  have hG1 := fun o : Obj => hG.below ((Below.refl B w).alloc hG.lt o)
  have hc : ∀ o : Obj, (w.alloc o).cell? ⟨1, 2, none⟩ = some (.string ⟨#[33, 61]⟩) := fun o => (hG1 o).ops 2 (by decide)
  clear hG hG1
  go_enter Tryd.func14, Tryd.ntmps14
  go_wp2
  go_ret
  exact ⟨rfl, up_alloc _ _⟩

set_option maxRecDepth 100000 in
set_option maxHeartbeats 3200000 in
theorem spells_60_61 (B off fin : Nat) (w : World) (hG : Gl B w) :
    Calls Tryd.prog 14 #[.string ⟨#[60, 61]⟩, .agg #[.int .i64 11, .string { data := #[] }, .int .i64 0, .int .i64 4, .int .i64 (off : Int), .int .i64 (fin : Int)]] w fun e w' => e = .returned (.bool true) ∧ Below w.heap.size w w' := by
  have hG1 := fun o : Obj => hG.below ((Below.refl B w).alloc hG.lt o)
  have hc : ∀ o : Obj, (w.alloc o).cell? ⟨1, 4, none⟩ = some (.string ⟨#[60, 61]⟩) := fun o => (hG1 o).ops 4 (by decide)
  clear hG hG1
  go_enter Tryd.func14, Tryd.ntmps14
  go_wp2
  go_ret
  exact ⟨rfl, up_alloc _ _⟩

set_option maxRecDepth 100000 in
set_option maxHeartbeats 3200000 in
theorem spells_62_61 (B off fin : Nat) (w : World) (hG : Gl B w) :
    Calls Tryd.prog 14 #[.string ⟨#[62, 61]⟩, .agg #[.int .i64 11, .string { data := #[] }, .int .i64 0, .int .i64 6, .int .i64 (off : Int), .int .i64 (fin : Int)]] w fun e w' => e = .returned (.bool true) ∧ Below w.heap.size w w' := by
  have hG1 := fun o : Obj => hG.below ((Below.refl B w).alloc hG.lt o)
  have hc : ∀ o : Obj, (w.alloc o).cell? ⟨1, 6, none⟩ = some (.string ⟨#[62, 61]⟩) := fun o => (hG1 o).ops 6 (by decide)
  clear hG hG1
  go_enter Tryd.func14, Tryd.ntmps14
  go_wp2
  go_ret
  exact ⟨rfl, up_alloc _ _⟩

set_option maxRecDepth 100000 in
set_option maxHeartbeats 3200000 in
theorem spells_60 (B off fin : Nat) (w : World) (hG : Gl B w) :
    Calls Tryd.prog 14 #[.string ⟨#[60]⟩, .agg #[.int .i64 11, .string { data := #[] }, .int .i64 0, .int .i64 3, .int .i64 (off : Int), .int .i64 (fin : Int)]] w fun e w' => e = .returned (.bool true) ∧ Below w.heap.size w w' := by
  have hG1 := fun o : Obj => hG.below ((Below.refl B w).alloc hG.lt o)
  have hc : ∀ o : Obj, (w.alloc o).cell? ⟨1, 3, none⟩ = some (.string ⟨#[60]⟩) := fun o => (hG1 o).ops 3 (by decide)
  clear hG hG1
  go_enter Tryd.func14, Tryd.ntmps14
  go_wp2
  go_ret
  exact ⟨rfl, up_alloc _ _⟩

set_option maxRecDepth 100000 in
set_option maxHeartbeats 3200000 in
theorem spells_62 (B off fin : Nat) (w : World) (hG : Gl B w) :
    Calls Tryd.prog 14 #[.string ⟨#[62]⟩, .agg #[.int .i64 11, .string { data := #[] }, .int .i64 0, .int .i64 5, .int .i64 (off : Int), .int .i64 (fin : Int)]] w fun e w' => e = .returned (.bool true) ∧ Below w.heap.size w w' := by
  have hG1 := fun o : Obj => hG.below ((Below.refl B w).alloc hG.lt o)
  have hc : ∀ o : Obj, (w.alloc o).cell? ⟨1, 5, none⟩ = some (.string ⟨#[62]⟩) := fun o => (hG1 o).ops 5 (by decide)
  clear hG hG1
  go_enter Tryd.func14, Tryd.ntmps14
  go_wp2
  go_ret
  exact ⟨rfl, up_alloc _ _⟩

set_option maxRecDepth 100000 in
set_option maxHeartbeats 3200000 in
theorem spells_61 (B off fin : Nat) (w : World) (hG : Gl B w) :
    Calls Tryd.prog 14 #[.string ⟨#[61]⟩, .agg #[.int .i64 11, .string { data := #[] }, .int .i64 0, .int .i64 1, .int .i64 (off : Int), .int .i64 (fin : Int)]] w fun e w' => e = .returned (.bool true) ∧ Below w.heap.size w w' := by
  have hG1 := fun o : Obj => hG.below ((Below.refl B w).alloc hG.lt o)
  have hc : ∀ o : Obj, (w.alloc o).cell? ⟨1, 1, none⟩ = some (.string ⟨#[61]⟩) := fun o => (hG1 o).ops 1 (by decide)
  clear hG hG1
  go_enter Tryd.func14, Tryd.ntmps14
  go_wp2
  go_ret
  exact ⟨rfl, up_alloc _ _⟩

set_option maxRecDepth 100000 in
set_option maxHeartbeats 3200000 in
theorem spells_40 (B off fin : Nat) (w : World) (hG : Gl B w) :
    Calls Tryd.prog 14 #[.string ⟨#[40]⟩, .agg #[.int .i64 5, .string { data := #[] }, .int .i64 0, .int .i64 0, .int .i64 (off : Int), .int .i64 (fin : Int)]] w fun e w' => e = .returned (.bool true) ∧ Below w.heap.size w w' := by
  have hG1 := fun o : Obj => hG.below ((Below.refl B w).alloc hG.lt o)
  have hc : ∀ o : Obj, (w.alloc o).cell? ⟨2, 5, none⟩ = some (.string ⟨#[40]⟩) := fun o => (hG1 o).mrk 5 (by decide)
  clear hG hG1
  go_enter Tryd.func14, Tryd.ntmps14
  go_wp2
  go_ret
  exact ⟨rfl, up_alloc _ _⟩

set_option maxRecDepth 100000 in
set_option maxHeartbeats 3200000 in
theorem spells_41 (B off fin : Nat) (w : World) (hG : Gl B w) :
    Calls Tryd.prog 14 #[.string ⟨#[41]⟩, .agg #[.int .i64 6, .string { data := #[] }, .int .i64 0, .int .i64 0, .int .i64 (off : Int), .int .i64 (fin : Int)]] w fun e w' => e = .returned (.bool true) ∧ Below w.heap.size w w' := by
  have hG1 := fun o : Obj => hG.below ((Below.refl B w).alloc hG.lt o)
  have hc : ∀ o : Obj, (w.alloc o).cell? ⟨2, 6, none⟩ = some (.string ⟨#[41]⟩) := fun o => (hG1 o).mrk 6 (by decide)
  clear hG hG1
  go_enter Tryd.func14, Tryd.ntmps14
  go_wp2
  go_ret
  exact ⟨rfl, up_alloc _ _⟩

set_option maxRecDepth 100000 in
set_option maxHeartbeats 3200000 in
theorem spells_44 (B off fin : Nat) (w : World) (hG : Gl B w) :
    Calls Tryd.prog 14 #[.string ⟨#[44]⟩, .agg #[.int .i64 7, .string { data := #[] }, .int .i64 0, .int .i64 0, .int .i64 (off : Int), .int .i64 (fin : Int)]] w fun e w' => e = .returned (.bool true) ∧ Below w.heap.size w w' := by
  have hG1 := fun o : Obj => hG.below ((Below.refl B w).alloc hG.lt o)
  have hc : ∀ o : Obj, (w.alloc o).cell? ⟨2, 7, none⟩ = some (.string ⟨#[44]⟩) := fun o => (hG1 o).mrk 7 (by decide)
  clear hG hG1
  go_enter Tryd.func14, Tryd.ntmps14
  go_wp2
  go_ret
  exact ⟨rfl, up_alloc _ _⟩

set_option maxRecDepth 100000 in
set_option maxHeartbeats 3200000 in
theorem spells_46 (B off fin : Nat) (w : World) (hG : Gl B w) :
    Calls Tryd.prog 14 #[.string ⟨#[46]⟩, .agg #[.int .i64 8, .string { data := #[] }, .int .i64 0, .int .i64 0, .int .i64 (off : Int), .int .i64 (fin : Int)]] w fun e w' => e = .returned (.bool true) ∧ Below w.heap.size w w' := by
  have hG1 := fun o : Obj => hG.below ((Below.refl B w).alloc hG.lt o)
  have hc : ∀ o : Obj, (w.alloc o).cell? ⟨2, 8, none⟩ = some (.string ⟨#[46]⟩) := fun o => (hG1 o).mrk 8 (by decide)
  clear hG hG1
  go_enter Tryd.func14, Tryd.ntmps14
  go_wp2
  go_ret
  exact ⟨rfl, up_alloc _ _⟩
end Go.Proofs.YthidnjnaifcfoaaDoor
