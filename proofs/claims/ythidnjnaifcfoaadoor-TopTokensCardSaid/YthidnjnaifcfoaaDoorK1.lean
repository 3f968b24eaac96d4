/-
  Bytes and strings in the walks: what a byte is told to be, a string's bytes by place. No condition beyond those that each lemma states.
-/
import Derived.Test.YthidnjnaifcfoaaDoorShelf
import Derived.Test.YthidnjnaifcfoaaDoorP7
import Derived.WalkKit
import Derived.WalkLawsBesides
import Derived.Lib.Hide
import Derived.Lib.SmallJoins
import Derived.Lib.Strings
import Derived.Laws.ResultCell
import Derived.Deep.Onto
import Derived.Deep.QuietTactic
import Derived.BigQuiet
import Derived.Deep.RegionLaw
import Derived.Deep.CutRange
namespace Go.Proofs.YthidnjnaifcfoaaDoor
open Go.RowKit Go.Shelf Pl

theorem ret_bool {b c : Bool} (h : b = c) : Ending.returned (.bool b) = .returned (.bool c) := by rw [h]
theorem up_alloc (w : World) (o : Obj) : Below w.heap.size w (w.alloc o) := (Below.refl _ _).alloc (Nat.le_refl _) o

section
variable (c : UInt8) (w : World)
theorem isD_any : Calls Tryd.prog 22 #[.int .u8 (c.toNat : Int)] w fun e w' => e = .returned (.bool (isD c)) ∧ w = w' := by
  go_enter Tryd.func22, Tryd.ntmps22
  go_wp2
  all_goals go_ret
  all_goals refine ⟨ret_bool ?_, rfl⟩
  all_goals (rw [Bool.eq_iff_iff]; simp [isD]; try omega)
theorem isU_any : Calls Tryd.prog 34 #[.int .u8 (c.toNat : Int)] w fun e w' => e = .returned (.bool (isU c)) ∧ w = w' := by
  go_enter Tryd.func34, Tryd.ntmps34
  go_wp2
  all_goals go_ret
  all_goals refine ⟨ret_bool ?_, rfl⟩
  all_goals (rw [Bool.eq_iff_iff]; simp [isU]; try omega)
theorem isL_any : Calls Tryd.prog 35 #[.int .u8 (c.toNat : Int)] w fun e w' => e = .returned (.bool (isL c)) ∧ w = w' := by
  go_enter Tryd.func35, Tryd.ntmps35
  go_wp2
  all_goals go_ret
  all_goals refine ⟨ret_bool ?_, rfl⟩
  all_goals (rw [Bool.eq_iff_iff]; simp [isL]; try omega)
theorem isB_any : Calls Tryd.prog 19 #[.int .u8 (c.toNat : Int)] w fun e w' => e = .returned (.bool (isB c)) ∧ w = w' := by
  go_enter Tryd.func19, Tryd.ntmps19
  go_wp2
  all_goals go_ret
  all_goals refine ⟨ret_bool ?_, rfl⟩
  all_goals (rw [Bool.eq_iff_iff]; simp [isB]; try omega)
theorem digit_any : Calls Tryd.prog 16 #[.int .u8 (c.toNat : Int)] w fun e w' => e = .returned (.bool (isD c)) ∧ w = w' := by
  go_enter Tryd.func16, Tryd.ntmps16
  go_wp2
  all_goals go_ret
  all_goals refine ⟨ret_bool ?_, rfl⟩
  all_goals (rw [Bool.eq_iff_iff]; simp [isD]; try omega)
theorem wordByte_any : Calls Tryd.prog 15 #[.int .u8 (c.toNat : Int)] w fun e w' => e = .returned (.bool (isW c)) ∧ w = w' := by
  go_enter Tryd.func15, Tryd.ntmps15
  go_wp2
  all_goals go_ret
  all_goals refine ⟨ret_bool ?_, rfl⟩
  all_goals (rw [Bool.eq_iff_iff]; simp [isW, isD, isU, isL]; try omega)
theorem isW_any : Calls Tryd.prog 25 #[.int .u8 (c.toNat : Int)] w fun e w' => e = .returned (.bool (isW c)) ∧ w = w' := by
  have HW : Hid (isW c = (isD c || isU c || isL c)) := rfl
  go_enter Tryd.func25, Tryd.ntmps25
  go_wp2_with fail
  refine (isD_any c w).mono ?_
  rintro e w' ⟨rfl, rfl⟩
  cases h1 : isD c with
  | true =>
    go_wp2
    go_ret
    exact ⟨ret_bool (by rw [HW.out, h1]; rfl), rfl⟩
  | false =>
    go_wp2_with fail
    refine (isU_any c w).mono ?_
    rintro e w' ⟨rfl, rfl⟩
    cases h2 : isU c with
    | true =>
      go_wp2
      go_ret
      exact ⟨ret_bool (by rw [HW.out, h1, h2]; rfl), rfl⟩
    | false =>
      go_wp2_with fail
      refine (isL_any c w).mono ?_
      rintro e w' ⟨rfl, rfl⟩
      go_wp2
      go_ret
      exact ⟨ret_bool (by rw [HW.out, h1, h2]; rfl), rfl⟩
end
end Go.Proofs.YthidnjnaifcfoaaDoor
