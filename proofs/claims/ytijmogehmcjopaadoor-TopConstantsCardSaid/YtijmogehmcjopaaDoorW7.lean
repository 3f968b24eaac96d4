/-
  The walk of the law's own word on constants: it is sym.Valid's. Conditions: none.
-/
import Derived.Test.YtijmogehmcjopaaDoorW6
namespace Go.Proofs.YtijmogehmcjopaaDoor
open Go.RowKit Ct

theorem at_mk {l : List UInt8} {i : Nat} (h : i < l.length) : (({ data := l.toArray } : ByteArray)[i]'(by rw [size_mk]; exact h)) = l[i] := rfl
theorem low_wd {c : UInt8} (h : lowB c = true) : wdB c = true := by simp [wdB, h]
theorem wordP_all {l : List UInt8} (h0 : 0 < l.length) (h64 : l.length ≤ 64) (hl : lowB l[0] = true) : wordP lowB l = l.all wdB := by
  cases l with
  | nil => simp at h0
  | cons b r =>
    simp only [List.getElem_cons_zero] at hl
    simp only [wordP, decide_eq_true h64, hl, Bool.true_and, List.all_cons, low_wd hl]
theorem wordP_first {l : List UInt8} (h0 : 0 < l.length) (h : lowB l[0] = false) : wordP lowB l = false := by
  cases l with
  | nil => rfl
  | cons b r =>
    simp only [List.getElem_cons_zero] at h
    unfold wordP
    simp only [h, Bool.and_false, Bool.false_and]
theorem wordP_long {l : List UInt8} (h : 64 < l.length) : wordP lowB l = false := by
  cases l with
  | nil => rfl
  | cons b r =>
    have h' : ¬ (b :: r).length ≤ 64 := by omega
    unfold wordP
    simp only [decide_eq_false h', Bool.false_and]

set_option maxRecDepth 100000 in
set_option maxHeartbeats 3200000 in
theorem fit_any (c : Cn) (w : World) : Calls Tryd.prog 6 #[cnV c] w fun e w' => e = .returned (.bool (valid c)) ∧ Below w.heap.size w w' := by
  obtain ⟨w2, hw2⟩ : ∃ w2, w2 = w.alloc (cnO c) := ⟨_, rfl⟩
  have c0 : w2.cell? ⟨w.heap.size, 0, none⟩ = some (.int .i64 c.kind) := by rw [hw2]; exact (cell_three _ _ _ _ _).1
  have c1 : w2.cell? ⟨w.heap.size, 1, none⟩ = some (.int .i64 c.int) := by rw [hw2]; exact (cell_three _ _ _ _ _).2.1
  have c2 : w2.cell? ⟨w.heap.size, 2, none⟩ = some (.string ⟨c.text.toArray⟩) := by rw [hw2]; exact (cell_three _ _ _ _ _).2.2
  have HB : Hid (Below w.heap.size w w2) := Lib.hid (by rw [hw2]; exact up_alloc _ _)
  obtain ⟨V, hV⟩ : ∃ V, V = valid c := ⟨_, rfl⟩
  rw [← hV]
  have HV := Lib.hid hV
  clear hV
  obtain ⟨s, hs⟩ : ∃ s : ByteArray, s = ⟨c.text.toArray⟩ := ⟨_, rfl⟩
  have hsz : s.size = c.text.length := by rw [hs, size_mk]
  have hL : L s = c.text := by rw [hs, L_mk]
  go_enter Tryd.func6, Tryd.ntmps6
  unfold cnV
  go_upto_region 1 with fail
  change Code.wp Tryd.prog _ _ _ (w.alloc (cnO c))
  rw [← hw2]
  clear hw2
  by_cases k1 : c.kind = 1
  · have e1 : (c.kind == 1) = true := by simp [k1]
    have hV : V = c.text.isEmpty := by rw [HV.out, valid, if_pos k1]; cases c.text <;> rfl
    clear k1 hs hsz hL
    go_wp2
    all_goals go_ret
    all_goals exact ⟨by first | (rw [hV]; rfl) | rfl, HB.out⟩
  have e1 : (c.kind == 1) = false := by simp [k1]
  by_cases k3 : c.kind = 3
  · have k2 : c.kind ≠ 2 := by omega
    have e4 : (c.kind == 3) = true := by simp [k3]
    clear hs hsz hL
    by_cases hi : c.int = 0
    · have e3 : (c.int == 0) = true := by simp [hi]
      have hV : V = decide (c.text.length ≤ 255) := by rw [HV.out, valid, if_neg k1, if_neg k2, if_pos k3]; simp [hi]
      clear k1 k2 k3 hi
      by_cases hle : c.text.length ≤ 255
      · have hleI : (c.text.length : Int) ≤ 255 := by omega
        have hV : V = true := by rw [hV]; exact decide_eq_true hle
        go_wp2
        all_goals go_ret
        all_goals exact ⟨by first | (rw [hV]; rfl) | rfl | (simp_all), HB.out⟩
      · have hleI : (255 : Int) < (c.text.length : Int) := by omega
        have hV : V = false := by rw [hV]; exact decide_eq_false hle
        go_wp2
        all_goals go_ret
        all_goals exact ⟨by first | (rw [hV]; rfl) | rfl | (simp_all), HB.out⟩
    · have e3 : (c.int == 0) = false := by simp [hi]
      have hV : V = false := by rw [HV.out, valid, if_neg k1, if_neg k2, if_pos k3]; simp [hi]
      clear k1 k2 k3 hi
      go_wp2
      all_goals go_ret
      all_goals exact ⟨by first | (rw [hV]; rfl) | rfl, HB.out⟩
  have e4 : (c.kind == 3) = false := by simp [k3]
  by_cases k2 : c.kind = 2
  · have e2 : (c.kind == 2) = true := by simp [k2]
    have hV0 : V = (decide (c.int = 0) && nameP c.text) := by rw [HV.out, valid, if_neg k1, if_pos k2]
    clear k1 k2 k3 HV
    rw [← hs] at c2 ⊢
    by_cases hi : c.int = 0
    · have e3 : (c.int != 0) = false := by simp [hi]
      have hV1 : V = nameP (L s) := by rw [hV0, hL]; simp [hi]
      have HL := Lib.hid hL
      have HS := Lib.hid hs
      have HSZ := Lib.hid hsz
      clear hV0 hi hL hs hsz
      by_cases hz : 0 < s.size
      · have hzI : (0 : Int) < (s.size : Int) := by omega
        have en : (s.toList == []) = false := by rw [toList_L, beq_eq_false_iff_ne, ne_eq, nil_size]; omega
        by_cases h64 : s.size ≤ 64
        · have h64I : (s.size : Int) ≤ 64 := by omega
          have hw0 : 0 < (L s).length := by rw [L_len]; exact hz
          by_cases hlow : lowB s[0] = true
          · have hlw := hlow
            simp only [lowB, decide_eq_true_eq] at hlw
            have g1 : ¬ (s[0].toNat : Int) < 97 := by omega
            have g2 : ¬ (122 : Int) < (s[0].toNat : Int) := by omega
            have g1' : (97 : Int) ≤ (s[0].toNat : Int) := by omega
            have g2' : (s[0].toNat : Int) ≤ 122 := by omega
            by_cases hnot : L s = notT
            · have en2 : (s.toList == [110, 111, 116]) = true := by rw [toList_L, hnot]; rfl
              have hV : V = false := by rw [hV1, nameP]; simp [hnot]
              clear hlow hlw hnot hV1 g1 g2
              go_wp2
              all_goals go_ret
              all_goals exact ⟨by first | (rw [hV]; rfl) | rfl, HB.out⟩
            · have en2 : (s.toList == [110, 111, 116]) = false := by rw [toList_L, beq_eq_false_iff_ne]; exact hnot
              have hV : Hid (V = (L s).all wdB) := Lib.hid (by rw [hV1, nameP, wordP_all hw0 (by rw [L_len]; exact h64) (by rw [L_get hz]; exact hlow)]; simp [hnot])
              clear hlow hlw hnot hV1 g1 g2
              go_wp2
              clear g1' g2' en2 en e3 e2 e4 e1
              go_loop [3] (fun k => ∃ q : Nat, k = .int .i64 (q : Int) ∧ q ≤ s.size ∧ Hid (((L s).take q).all wdB = true)) (fun k => s.size - (intOf k).toNat)
              case atStart => exact ⟨0, rfl, by omega, Lib.hid rfl⟩
              case round =>
                obtain ⟨q, rfl, hq, HQ⟩ := hrel
                by_cases hqn : q < s.size
                · have hqI : (q : Int) < (s.size : Int) := by omega
                  have hq0 : (0 : Int) ≤ (q : Int) := by omega
                  have hw1 : IntKind.i64.wrap ((q : Int) + 1) = (q : Int) + 1 := by rw [IntKind.wrap_i64]; omega
                  by_cases hwd : wdB s[q] = true
                  · have g1 : (!wdB s[q]) = false := by rw [hwd]; rfl
                    have HX : Hid (((L s).take (q + 1)).all wdB = true) := by
                      apply Lib.hid
                      rw [List.take_succ_eq_append_getElem (by rw [L_len]; exact hqn), List.all_append, HQ.out, L_get hqn]
                      simp [hwd]
                    clear hwd
                    go_wp2_with (go_at_call 22; refine (wordByte_any _ _).mono ?_; rintro e w' ⟨rfl, hw⟩; rw [hw])
                    all_goals (go_round; (case rel => exact ⟨q + 1, by go_num, by omega, HX⟩); (case measure => simp only [intOf]; omega))
                  · have g1 : (!wdB s[q]) = true := by simpa using hwd
                    have hV : V = false := by
                      rw [hV.out, List.all_eq_false]
                      exact ⟨s[q], by rw [← L_get hqn]; exact List.getElem_mem _, hwd⟩
                    clear hwd
                    go_wp2_with (go_at_call 22; refine (wordByte_any _ _).mono ?_; rintro e w' ⟨rfl, hw⟩; rw [hw])
                    all_goals go_ret
                    all_goals exact ⟨by first | (rw [hV]; rfl) | rfl, HB.out⟩
                · have hV : V = true := by
                    rw [hV.out]
                    have h := HQ.out
                    rw [List.take_of_length_le (by rw [L_len]; omega)] at h
                    exact h
                  obtain rfl : q = s.size := by omega
                  go_wp2
                  all_goals go_ret
                  all_goals exact ⟨by first | (rw [hV]; rfl) | rfl, HB.out⟩
          · have hV : V = false := by
              have hf : wordP lowB (L s) = false := wordP_first hw0 (by rw [L_get hz]; exact Bool.eq_false_iff.2 hlow)
              rw [hV1, nameP, hf, Bool.and_false]
            clear hV1
            by_cases g1 : (s[0].toNat : Int) < 97
            · clear hlow
              go_wp2
              all_goals go_ret
              all_goals exact ⟨by first | (rw [hV]; rfl) | rfl, HB.out⟩
            · have g2 : (122 : Int) < (s[0].toNat : Int) := by
                simp only [lowB, decide_eq_true_eq] at hlow
                omega
              have g1' : decide ((s[0].toNat : Int) < 97) = false := decide_eq_false g1
              clear hlow
              go_wp2
              all_goals go_ret
              all_goals exact ⟨by first | (rw [hV]; rfl) | rfl, HB.out⟩
        · have h64I : (64 : Int) < (s.size : Int) := by omega
          have hV : V = false := by
            have hf : wordP lowB (L s) = false := wordP_long (by rw [L_len]; omega)
            rw [hV1, nameP, hf, Bool.and_false]
          clear hV1
          go_wp2
          all_goals go_ret
          all_goals exact ⟨by first | (rw [hV]; rfl) | rfl, HB.out⟩
      · have hE : L s = [] := nil_size.2 (by omega)
        have en : (s.toList == []) = true := by rw [toList_L, hE]; rfl
        have hV : V = false := by rw [hV1, hE]; rfl
        clear hE hV1
        go_wp2
        all_goals go_ret
        all_goals exact ⟨by first | (rw [hV]; rfl) | rfl, HB.out⟩
    · have e3 : (c.int != 0) = true := by simp [hi]
      have hV : V = false := by rw [hV0]; simp [hi]
      clear hi hV0 hs hsz hL
      go_wp2
      all_goals go_ret
      all_goals exact ⟨by first | (rw [hV]; rfl) | rfl, HB.out⟩
  have e2 : (c.kind == 2) = false := by simp [k2]
  have hV : V = false := by rw [HV.out, valid, if_neg k1, if_neg k2, if_neg k3]
  clear k1 k2 k3 hs hsz hL
  go_wp2
  all_goals go_ret
  all_goals exact ⟨by first | (rw [hV]; rfl) | rfl, HB.out⟩
end Go.Proofs.YtijmogehmcjopaaDoor
