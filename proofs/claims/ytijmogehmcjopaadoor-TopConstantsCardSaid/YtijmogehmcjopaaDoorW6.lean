/-
  The walks of sym.IsName and sym.Valid. Conditions: none.
-/
import Derived.Test.YtijmogehmcjopaaDoorW5
namespace Go.Proofs.YtijmogehmcjopaaDoor
open Go.RowKit Ct

set_option maxRecDepth 100000 in
set_option maxHeartbeats 3200000 in
theorem isName_any (s : ByteArray) (w : World) : Calls Tryd.prog 24 #[.string s] w fun e w' => e = .returned (.bool (nameP (L s))) ∧ Below w.heap.size w w' := by
  obtain ⟨W, hW⟩ : ∃ W, W = wordP lowB (L s) := ⟨_, rfl⟩
  have hcon := word_any s
  unfold nameP
  rw [← hW] at hcon ⊢
  by_cases h : L s = notT
  · have e1 : (s.toList == [110, 111, 116]) = true := by rw [toList_L, h]; rfl
    have hN : decide (L s ≠ notT) = false := by simp [h]
    rw [hN, Bool.false_and]
    clear h hN hW
    go_enter Tryd.func24, Tryd.ntmps24
    go_wp2
    all_goals go_ret
    all_goals exact ⟨rfl, Below.refl _ _⟩
  · have e1 : (s.toList == [110, 111, 116]) = false := by rw [toList_L, beq_eq_false_iff_ne]; exact h
    have hN : decide (L s ≠ notT) = true := by simp [h]
    rw [hN, Bool.true_and]
    clear h hN hW
    go_enter Tryd.func24, Tryd.ntmps24
    go_wp2_with (go_at_call 41; refine (hcon _).mono ?_; rintro e w' ⟨rfl, hw⟩)
    all_goals go_ret
    all_goals exact ⟨rfl, by assumption⟩
theorem text_str (l : List UInt8) : (({ data := l.toArray } : ByteArray).toList == []) = decide (l = []) := by
  rw [ByteArray.toList_eq]; cases l <;> rfl
theorem size_mk (l : List UInt8) : ({ data := l.toArray } : ByteArray).size = l.length := by rw [← L_len, L_mk]

set_option maxRecDepth 100000 in
set_option maxHeartbeats 3200000 in
theorem valid_any (c : Cn) (w : World) : Calls Tryd.prog 8 #[cnV c] w fun e w' => e = .returned (.bool (valid c)) ∧ Below w.heap.size w w' := by
  obtain ⟨w2, hw2⟩ : ∃ w2, w2 = w.alloc (cnO c) := ⟨_, rfl⟩
  have c0 : w2.cell? ⟨w.heap.size, 0, none⟩ = some (.int .i64 c.kind) := by rw [hw2]; exact (cell_three _ _ _ _ _).1
  have c1 : w2.cell? ⟨w.heap.size, 1, none⟩ = some (.int .i64 c.int) := by rw [hw2]; exact (cell_three _ _ _ _ _).2.1
  have c2 : w2.cell? ⟨w.heap.size, 2, none⟩ = some (.string ⟨c.text.toArray⟩) := by rw [hw2]; exact (cell_three _ _ _ _ _).2.2
  have HB : Hid (Below w.heap.size w w2) := Lib.hid (by rw [hw2]; exact up_alloc _ _)
  obtain ⟨V, hV⟩ : ∃ V, V = valid c := ⟨_, rfl⟩
  rw [← hV]
  have HV := Lib.hid hV
  clear hV
  have hcon := fun w => isName_any ⟨c.text.toArray⟩ w
  rw [L_mk] at hcon
  go_enter Tryd.func8, Tryd.ntmps8
  unfold cnV
  go_upto_region 1 with fail
  change Code.wp Tryd.prog _ _ _ (w.alloc (cnO c))
  rw [← hw2]
  clear hw2
  by_cases k1 : c.kind = 1
  · have e1 : (c.kind == 1) = true := by simp [k1]
    have hV : V = c.text.isEmpty := by rw [HV.out, valid, if_pos k1]; cases c.text <;> rfl
    clear k1
    go_wp2
    all_goals go_ret
    all_goals exact ⟨by first | (rw [hV]; rfl) | rfl, HB.out⟩
  have e1 : (c.kind == 1) = false := by simp [k1]
  by_cases k2 : c.kind = 2
  · have e2 : (c.kind == 2) = true := by simp [k2]
    by_cases hi : c.int = 0
    · have e3 : (c.int == 0) = true := by simp [hi]
      have hV : V = nameP c.text := by rw [HV.out, valid, if_neg k1, if_pos k2]; simp [hi]
      clear k1 k2 hi
      go_wp2_with (go_at_call 24; refine (hcon _).mono ?_; rintro e w' ⟨rfl, hw⟩)
      all_goals go_ret
      all_goals exact ⟨by first | (rw [hV]; rfl) | rfl, HB.out.trans (hw.mono (HB.out.size))⟩
    · have e3 : (c.int == 0) = false := by simp [hi]
      have hV : V = false := by rw [HV.out, valid, if_neg k1, if_pos k2]; simp [hi]
      clear k1 k2 hi
      go_wp2
      all_goals go_ret
      all_goals exact ⟨by first | (rw [hV]; rfl) | rfl, HB.out⟩
  have e2 : (c.kind == 2) = false := by simp [k2]
  by_cases k3 : c.kind = 3
  · have e4 : (c.kind == 3) = true := by simp [k3]
    by_cases hi : c.int = 0
    · have e3 : (c.int == 0) = true := by simp [hi]
      have hV : V = decide (c.text.length ≤ 255) := by rw [HV.out, valid, if_neg k1, if_neg k2, if_pos k3]; simp [hi]
      clear k1 k2 k3 hi
      by_cases hle : c.text.length ≤ 255
      · have hleI : (c.text.length : Int) ≤ 255 := by omega
        have hV : V = true := by rw [hV]; exact decide_eq_true hle
        go_wp2
        all_goals go_ret
        all_goals exact ⟨by first | (rw [hV]; rfl) | rfl | (simp_all), HB.out⟩
      · have hleI : (255 : Int) < (c.text.length : Int) := by omega
        have hV : V = false := by rw [hV]; exact decide_eq_false hle
        go_wp2
        all_goals go_ret
        all_goals exact ⟨by first | (rw [hV]; rfl) | rfl | (simp_all), HB.out⟩
    · have e3 : (c.int == 0) = false := by simp [hi]
      have hV : V = false := by rw [HV.out, valid, if_neg k1, if_neg k2, if_pos k3]; simp [hi]
      clear k1 k2 k3 hi
      go_wp2
      all_goals go_ret
      all_goals exact ⟨by first | (rw [hV]; rfl) | rfl, HB.out⟩
  have e3 : (c.kind == 3) = false := by simp [k3]
  have hV : V = false := by rw [HV.out, valid, if_neg k1, if_neg k2, if_neg k3]
  clear k1 k2 k3
  go_wp2
  all_goals go_ret
  all_goals exact ⟨by first | (rw [hV]; rfl) | rfl, HB.out⟩
end Go.Proofs.YtijmogehmcjopaaDoor
