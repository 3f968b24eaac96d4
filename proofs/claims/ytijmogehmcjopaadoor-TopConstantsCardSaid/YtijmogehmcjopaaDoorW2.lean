/-
  The walks of cmp.Compare at int, int64, string, and of cmp.Or at three numbers. Conditions: none beyond those stated.
-/
import Derived.Test.YtijmogehmcjopaaDoorW1
import Derived.Sort.Walk0
namespace Go.Proofs.YtijmogehmcjopaaDoor
open Go.RowKit Ct

theorem nan46 (x : Int) (w : World) : Calls Tryd.prog 46 #[.int .i64 x] w fun e w' => e = .returned (.bool false) ∧ w' = w := by
  have h : (x != x) = false := by simp
  go_enter Tryd.func46, Tryd.ntmps46
  go_wp2
  all_goals go_ret
  all_goals exact ⟨rfl, rfl⟩
theorem nan47 (x : Int) (w : World) : Calls Tryd.prog 47 #[.int .i64 x] w fun e w' => e = .returned (.bool false) ∧ w' = w := by
  have h : (x != x) = false := by simp
  go_enter Tryd.func47, Tryd.ntmps47
  go_wp2
  all_goals go_ret
  all_goals exact ⟨rfl, rfl⟩
theorem nan48 (x : ByteArray) (w : World) : Calls Tryd.prog 48 #[.string x] w fun e w' => e = .returned (.bool false) ∧ w' = w := by
  go_enter Tryd.func48, Tryd.ntmps48
  go_wp2
  all_goals go_ret
  all_goals exact ⟨rfl, rfl⟩
theorem cmp29 (x y : Int) (w : World) : Calls Tryd.prog 29 #[.int .i64 x, .int .i64 y] w fun e w' => e = .returned (.int .i64 (cmpI x y)) ∧ w' = w := by
  go_enter Tryd.func29, Tryd.ntmps29
  go_wp2_with (go_at_call 46; refine (nan46 _ _).mono ?_; rintro e w' ⟨rfl, hw⟩; rw [hw])
  all_goals (go_ret; refine ⟨?_, rfl⟩; unfold cmpI; (repeat' split) <;> first | rfl | (exfalso; omega))
theorem cmp30 (x y : Int) (w : World) : Calls Tryd.prog 30 #[.int .i64 x, .int .i64 y] w fun e w' => e = .returned (.int .i64 (cmpI x y)) ∧ w' = w := by
  go_enter Tryd.func30, Tryd.ntmps30
  go_wp2_with (go_at_call 47; refine (nan47 _ _).mono ?_; rintro e w' ⟨rfl, hw⟩; rw [hw])
  all_goals (go_ret; refine ⟨?_, rfl⟩; unfold cmpI; (repeat' split) <;> first | rfl | (exfalso; omega))
theorem less_eq (x y : ByteArray) : Op.bytesLess x.toList y.toList = decide (L x < L y) := by
  rw [Go.Proofs.bytesLess_eq, ByteArray.toList_eq, ByteArray.toList_eq]; rfl
theorem cmp31 (x y : ByteArray) (w : World) : Calls Tryd.prog 31 #[.string x, .string y] w fun e w' => e = .returned (.int .i64 (cmpS (L x) (L y))) ∧ w' = w := by
  obtain ⟨V, hV⟩ : ∃ V, V = cmpS (L x) (L y) := ⟨_, rfl⟩
  rw [← hV]
  by_cases h1 : L x < L y
  · have e1 : Op.bytesLess x.toList y.toList = true := by rw [less_eq]; exact decide_eq_true h1
    have hV1 : V = -1 := by rw [hV, cmpS, if_pos h1]
    clear hV
    go_enter Tryd.func31, Tryd.ntmps31
    go_wp2_with (go_at_call 48; refine (nan48 _ _).mono ?_; rintro e w' ⟨rfl, hw⟩; rw [hw])
    all_goals (go_ret; exact ⟨by rw [hV1]; rfl, rfl⟩)
  have e1 : Op.bytesLess x.toList y.toList = false := by rw [less_eq]; exact decide_eq_false h1
  by_cases h2 : L x = L y
  · obtain rfl : x = y := L_inj.1 h2
    have hV1 : V = 0 := by rw [hV, cmpS, if_neg h1, if_neg h1]
    have e2 : (x.toList == x.toList) = true := by simp
    clear hV h2
    go_enter Tryd.func31, Tryd.ntmps31
    go_wp2_with (go_at_call 48; refine (nan48 _ _).mono ?_; rintro e w' ⟨rfl, hw⟩; rw [hw])
    all_goals (go_ret; exact ⟨by rw [hV1]; rfl, rfl⟩)
  · have hl : L y < L x := by
      rcases lt_tri (L x) (L y) with h | h | h
      · exact absurd h h1
      · exact absurd h h2
      · exact h
    have hV1 : V = 1 := by rw [hV, cmpS, if_neg h1, if_pos hl]
    have e2 : (x.toList == y.toList) = false := by rw [ByteArray.toList_eq, ByteArray.toList_eq]; simp; intro e; exact h2 (by unfold L; rw [e])
    clear hV
    go_enter Tryd.func31, Tryd.ntmps31
    go_wp2_with (go_at_call 48; refine (nan48 _ _).mono ?_; rintro e w' ⟨rfl, hw⟩; rw [hw])
    all_goals (go_ret; exact ⟨by rw [hV1]; rfl, rfl⟩)
end Go.Proofs.YtijmogehmcjopaaDoor
