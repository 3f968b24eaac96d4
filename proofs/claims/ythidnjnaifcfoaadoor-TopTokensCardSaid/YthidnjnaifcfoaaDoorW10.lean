/-
  The walk of lex's reader.fault. No condition.
-/
import Derived.Test.YthidnjnaifcfoaaDoorK2
namespace Go.Proofs.YthidnjnaifcfoaaDoor
open Go.RowKit Go.Shelf Pl

theorem Tryd.size32 : (Tryd.prog.info? 32).map (·.size) = some 6 := by kernel_rfl
/-- A token as a value. -/
def TokV (kind : Nat) (text : ByteArray) (int : Int) (op off fin : Nat) : Value := .agg #[.int .i64 (kind : Int), .string text, .int .i64 int, .int .i64 (op : Int), .int .i64 (off : Int), .int .i64 (fin : Int)]
def noS : ByteArray := ⟨#[]⟩
theorem fault_any (X : Nat) (c o : Nat) (w : World) :
    Calls Tryd.prog 21 #[.pointer (some ⟨X, 0, none⟩), .int .i64 (c : Int), .int .i64 (o : Int)] w fun e w' => e = .returned (.tuple #[TokV 0 noS 0 0 0 0, FaultV c o]) ∧ Below w.heap.size w w' := by
  go_enter Tryd.func21, Tryd.ntmps21
  go_wp2
  have hg : ((w.alloc (.cells #[.int .i64 0, .string noS, .int .i64 0, .int .i64 0, .int .i64 0, .int .i64 0] 32)).alloc (.cells #[.int .i64 (c : Int), .int .i64 0, .int .i64 (o : Int)] 25)).heap[w.heap.size]? = some (.cells #[.int .i64 0, .string noS, .int .i64 0, .int .i64 0, .int .i64 0, .int .i64 0] 32) := by
    rw [Below.heap_alloc _ _ _ (by simp)]; exact heap_alloc_new _ _
  have hg2 : ((w.alloc (.cells #[.int .i64 0, .string noS, .int .i64 0, .int .i64 0, .int .i64 0, .int .i64 0] 32)).alloc (.cells #[.int .i64 (c : Int), .int .i64 0, .int .i64 (o : Int)] 25)).heap[w.heap.size + 1]? = some (.cells #[.int .i64 (c : Int), .int .i64 0, .int .i64 (o : Int)] 25) := by
    have := heap_alloc_new (w.alloc (.cells #[.int .i64 0, .string noS, .int .i64 0, .int .i64 0, .int .i64 0, .int .i64 0] 32)) (.cells #[.int .i64 (c : Int), .int .i64 0, .int .i64 (o : Int)] 25)
    simpa using this
  refine bodyPost_ret (results_two_rows rfl _ _ w.heap.size (w.heap.size + 1) 32 25 #[.int .i64 0, .string noS, .int .i64 0, .int .i64 0, .int .i64 0, .int .i64 0] #[.int .i64 (c : Int), .int .i64 0, .int .i64 (o : Int)] (0, 0) (0, 0) _ _ rfl hg Tryd.underlying32 rfl Tryd.size32 rfl hg2 Tryd.underlying25 rfl Tryd.size25) rfl ?_
  exact ⟨rfl, (up_alloc w _).alloc (by simp) _⟩
end Go.Proofs.YthidnjnaifcfoaaDoor
