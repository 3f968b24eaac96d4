/-
  The walk of edictlaw09.lists at d = 0: one list of none, else no list. Conditions: n < 5.
-/
import Derived.Test.YtfhmcgpohpkjgaaW10
namespace Go.Proofs.Ytfhmcgpohpkjgaa
open Go.RowKit Plain

set_option maxRecDepth 100000 in
set_option maxHeartbeats 1600000 in
theorem lists_none (w : World) :
    Calls Try.prog 40 #[.int .i64 0, .int .i64 0] w fun e w' => e = .returned (.int .u64 1) ∧ Below w.heap.size w w' := by
  obtain ⟨i0, hi, hz0, hz1, hz2⟩ := info_parts Try.info3
  go_enter Try.func40, Try.ntmps40
  go_wp2_with (at_make; refine wpList_make_full w rfl _ _ 35 rfl w.heap.size 3 i0 (.int .i64 0) 1 Try.underlying35 hi hz0 hz1 .i64 .i64 _ _ 0 rfl rfl rfl rfl (by rw [hz2]; omega) (by unfold maxLen; omega) (Nat.le_refl _) ?_; intro w1 hown1 hgrow1)
  have HB := Lib.hid ((Below.refl w.heap.size w).grown hgrow1 (Nat.le_refl _) (fun k hk => by cases hk))
  clear hown1 hgrow1
  refine wp_loop_rounds 1 ?_
  rw [rounds_succ]
  go_wp2
  refine wp_loop_rounds 1 ?_
  rw [rounds_succ]
  go_wp2
  refine wp_loop_rounds 1 ?_
  rw [rounds_succ]
  go_wp2
  go_ret
  exact ⟨rfl, HB.out⟩

set_option maxRecDepth 100000 in
set_option maxHeartbeats 1600000 in
theorem lists_zero (n : Nat) (hn0 : 0 < n) (hn : n < 5) (w : World) :
    Calls Try.prog 40 #[.int .i64 0, .int .i64 (n : Int)] w fun e w' => e = .returned (.int .u64 0) ∧ Below w.heap.size w w' := by
  obtain ⟨i0, hi, hz0, hz1, hz2⟩ := info_parts Try.info3
  have HZ : Hid ((madeCells (Value.int .i64 0).cells (n * 1)).toList = ints (List.replicate n 0)) := by
    unfold Hid
    simp [madeCells, ints, Value.cells, Nat.mod_one]
    rw [List.eq_replicate_iff]
    simp
  go_enter Try.func40, Try.ntmps40
  go_wp2_with (at_make; refine wpList_make_full w rfl _ _ 35 rfl w.heap.size 3 i0 (.int .i64 0) 1 Try.underlying35 hi hz0 hz1 .i64 .i64 _ _ n rfl rfl rfl rfl (by rw [hz2]; omega) (by unfold maxLen; omega) (Nat.le_refl _) ?_; intro w1 hown1 hgrow1)
  have HB := Lib.hid ((Below.refl w.heap.size w).grown hgrow1 (Nat.le_refl _) (fun k hk => by cases hk))
  rw [HZ.out] at hown1
  have hcell : w1.cell? ⟨w.heap.size, 0, none⟩ = some (.int .i64 0) := by
    rw [hown1.cellAt 0 (by omega), ints_get _ 0 (by simp; omega)]; simp [hn0]
  clear hown1 hgrow1
  refine wp_loop_rounds 1 ?_
  rw [rounds_succ]
  go_wp2
  refine wp_loop_rounds 1 ?_
  rw [rounds_succ]
  go_wp2
  go_ret
  exact ⟨rfl, HB.out⟩

end Go.Proofs.Ytfhmcgpohpkjgaa
