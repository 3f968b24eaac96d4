/-
  The walks of sym.word at small, and of sym.IsName. Conditions: none.
-/
import Derived.Test.YtijmogehmcjopaaDoorW4
namespace Go.Proofs.YtijmogehmcjopaaDoor
open Go.RowKit Ct

theorem nil_size {s : ByteArray} : L s = [] ↔ s.size = 0 := by rw [← L_len]; exact List.length_eq_zero_iff.symm
theorem toList_L (s : ByteArray) : s.toList = L s := ByteArray.toList_eq s
set_option maxRecDepth 100000 in
set_option maxHeartbeats 3200000 in
theorem word_any (s : ByteArray) (w : World) : Calls Tryd.prog 41 #[.string s, .func (.func 42) #[] #[]] w fun e w' => e = .returned (.bool (wordP lowB (L s))) ∧ Below w.heap.size w w' := by
  obtain ⟨V, hV⟩ : ∃ V, V = wordP lowB (L s) := ⟨_, rfl⟩
  rw [← hV]
  have HV := Lib.hid hV
  clear hV
  by_cases h0 : 0 < s.size
  · have h0I : (0 : Int) < (s.size : Int) := by omega
    have e0 : (s.toList == []) = false := by rw [toList_L, beq_eq_false_iff_ne, ne_eq, nil_size]; omega
    by_cases h64 : s.size ≤ 64
    · have h64' : (s.size : Int) ≤ 64 := by omega
      by_cases hlow : lowB s[0] = true
      · have hl' : (!lowB s[0]) = false := by rw [hlow]; rfl
        have HLOW := Lib.hid hlow
        clear hlow
        go_enter Tryd.func41, Tryd.ntmps41
        go_upto_region 3 with (go_at_call 42; refine (small_any _ _).mono ?_; rintro e w' ⟨rfl, hw⟩; rw [hw])
        have h1I : (1 : Int) ≤ (s.size : Int) := by omega
        have hcv := Lib.run_convert_string_bytes w 9 56 5 (s.extract 1 s.size) Tryd.underlying9 Tryd.underlying56 Tryd.underlying5
        obtain ⟨wb, hwb⟩ : ∃ wb, wb = Lib.bytesWorld w 5 (s.extract 1 s.size) := ⟨_, rfl⟩
        obtain ⟨f, hf⟩ : ∃ f, f = s.extract 1 s.size := ⟨_, rfl⟩
        have hcell : ∀ j, (hj : j < f.size) → wb.cell? ⟨w.heap.size, j, none⟩ = some (.int .u8 (f[j].toNat : Int)) := fun j hj => by
          rw [hwb, ← hf, Lib.bytesWorld_cell w 5 f j hj]
          have e : f.data.toList.getD j 0 = f[j] := by
            rw [← L_get hj, List.getD_eq_getElem?_getD]
            show ((L f)[j]?).getD 0 = _
            rw [List.getElem?_eq_getElem (by rw [L_len]; exact hj)]; rfl
          rw [e]
        have HB := Lib.hid (show Below w.heap.size w wb by rw [hwb]; exact Joins.below_bytesWorld _ w 5 _ (Nat.le_refl _))
        rw [← hwb] at hcv
        obtain ⟨cap, hcap⟩ : ∃ cap, cap = grownCap w (s.extract 1 s.size).size 0 5 := ⟨_, rfl⟩
        rw [← hcap] at hcv
        clear hwb hcap
        have HLF : Hid (L f = (L s).drop 1) := by
          apply Lib.hid
          rw [hf, L_extract, List.take_of_length_le (by rw [List.length_drop, L_len]; exact Nat.le_refl _)]
        go_wp2
        rw [← hf]
        have HF := Lib.hid hf
        have hfn : f.size = s.size - 1 := by rw [← L_len, HLF.out, List.length_drop, L_len]
        clear hf hcv
        obtain ⟨n, hn⟩ : ∃ n, n = s.size - 1 := ⟨_, rfl⟩
        rw [← hn] at hfn ⊢
        have HN := Lib.hid hn
        have HFN := Lib.hid hfn
        have hV : Hid (V = (L f).all wdB) := by
          have hcons : L s = s[0] :: (L s).drop 1 := by
            have h := List.drop_eq_getElem_cons (l := L s) (i := 0) (by rw [L_len]; exact h0)
            rw [List.drop_zero, L_get h0] at h
            exact h
          apply Lib.hid
          rw [HV.out, HLF.out]
          have hlen := L_len s
          rw [hcons] at hlen ⊢
          simp only [wordP, HLOW.out, hlen, decide_eq_true h64, Bool.true_and, List.drop_succ_cons, List.drop_zero]
        clear HV hn hfn HLF
        go_loop [25] (fun k => ∃ q : Nat, k = .int .i64 (q : Int) ∧ q ≤ n ∧ Hid (((L f).take q).all wdB = true)) (fun k => n - (intOf k).toNat)
        case atStart => exact ⟨0, rfl, by omega, Lib.hid rfl⟩
        case round =>
          obtain ⟨q, rfl, hq, HQ⟩ := hrel
          by_cases hqn : q < n
          · have hqI : (q : Int) < (n : Int) := by omega
            have hq0 : (0 : Int) ≤ (q : Int) := by omega
            have hqf : q < f.size := by rw [HFN.out]; exact hqn
            have hcq := hcell q hqf
            obtain ⟨c, hc⟩ : ∃ c, c = f[q] := ⟨_, rfl⟩
            rw [← hc] at hcq
            have HC := Lib.hid hc
            have hw1 : IntKind.i64.wrap ((q : Int) + 1) = (q : Int) + 1 := by have := HN.out; rw [IntKind.wrap_i64]; omega
            have hnext : wdB c = true → Hid (((L f).take (q + 1)).all wdB = true) := fun h => by
              apply Lib.hid
              rw [List.take_succ_eq_append_getElem (by rw [L_len]; exact hqf), List.all_append, HQ.out, L_get hqf, ← HC.out]
              simp [h]
            have hbad : wdB c = false → V = false := fun h => by
              rw [hV.out, List.all_eq_false]
              exact ⟨c, by rw [HC.out, ← L_get hqf]; exact List.getElem_mem _, by simp [h]⟩
            clear hc hcell
            by_cases hl : lowB c = true
            · have g1 : (!lowB c) = false := by rw [hl]; rfl
              have HX := hnext (by simp [wdB, hl])
              clear hnext hbad hl
              go_wp2_with (first | (go_at_call 42; refine (small_any _ _).mono ?_; rintro e w' ⟨rfl, hw⟩; rw [hw]) | (go_at_call 57; refine (big_any _ _).mono ?_; rintro e w' ⟨rfl, hw⟩; rw [hw]))
              all_goals (go_round; (case rel => exact ⟨q + 1, by go_num, by omega, HX⟩); (case measure => simp only [intOf]; omega))
            have g1 : (!lowB c) = true := by simpa using hl
            have hl' : lowB c = false := by simpa using hl
            by_cases hb : bigB c = true
            · have g2 : (!bigB c) = false := by rw [hb]; rfl
              have HX := hnext (by simp [wdB, hb])
              clear hnext hbad hl hb hl'
              go_wp2_with (first | (go_at_call 42; refine (small_any _ _).mono ?_; rintro e w' ⟨rfl, hw⟩; rw [hw]) | (go_at_call 57; refine (big_any _ _).mono ?_; rintro e w' ⟨rfl, hw⟩; rw [hw]))
              all_goals (go_round; (case rel => exact ⟨q + 1, by go_num, by omega, HX⟩); (case measure => simp only [intOf]; omega))
            have g2 : (!bigB c) = true := by simpa using hb
            have hb' : bigB c = false := by simpa using hb
            by_cases h48 : (c.toNat : Int) < 48
            · have hV0 : V = false := hbad (by simp [wdB, hl', hb', digB]; omega)
              clear hnext hbad hl hb hl' hb'
              go_wp2_with (first | (go_at_call 42; refine (small_any _ _).mono ?_; rintro e w' ⟨rfl, hw⟩; rw [hw]) | (go_at_call 57; refine (big_any _ _).mono ?_; rintro e w' ⟨rfl, hw⟩; rw [hw]))
              all_goals go_ret
              all_goals exact ⟨by rw [hV0]; rfl, HB.out⟩
            have h48' : decide ((c.toNat : Int) < 48) = false := decide_eq_false h48
            by_cases h57 : (57 : Int) < (c.toNat : Int)
            · have hV0 : V = false := hbad (by simp [wdB, hl', hb', digB]; omega)
              clear hnext hbad hl hb hl' hb'
              go_wp2_with (first | (go_at_call 42; refine (small_any _ _).mono ?_; rintro e w' ⟨rfl, hw⟩; rw [hw]) | (go_at_call 57; refine (big_any _ _).mono ?_; rintro e w' ⟨rfl, hw⟩; rw [hw]))
              all_goals go_ret
              all_goals exact ⟨by rw [hV0]; rfl, HB.out⟩
            have h57' : decide ((57 : Int) < (c.toNat : Int)) = false := decide_eq_false h57
            have HX := hnext (by simp [wdB, digB]; omega)
            clear hnext hbad hl hb hl' hb'
            go_wp2_with (first | (go_at_call 42; refine (small_any _ _).mono ?_; rintro e w' ⟨rfl, hw⟩; rw [hw]) | (go_at_call 57; refine (big_any _ _).mono ?_; rintro e w' ⟨rfl, hw⟩; rw [hw]))
            all_goals (go_round; (case rel => exact ⟨q + 1, by go_num, by omega, HX⟩); (case measure => simp only [intOf]; omega))
          · have hqe : q = n := by omega
            have hV1 : V = true := by
              rw [hV.out]
              have h := HQ.out
              rw [List.take_of_length_le (by rw [L_len, HFN.out]; omega)] at h
              exact h
            clear hcell
            go_wp2
            all_goals go_ret
            all_goals exact ⟨by first | (rw [hV1]; rfl) | rfl, HB.out⟩
      · have hl' : (!lowB s[0]) = true := by simpa using hlow
        have hV1 : V = false := by
          have hcons : L s = s[0] :: (L s).drop 1 := by
            have h := List.drop_eq_getElem_cons (l := L s) (i := 0) (by rw [L_len]; exact h0)
            rw [List.drop_zero, L_get h0] at h
            exact h
          rw [HV.out, hcons]
          simp [wordP, hlow]
        clear hlow
        go_enter Tryd.func41, Tryd.ntmps41
        go_wp2_with (go_at_call 42; refine (small_any _ _).mono ?_; rintro e w' ⟨rfl, hw⟩; rw [hw])
        all_goals go_ret
        all_goals exact ⟨by first | (rw [hV1]; rfl) | rfl, Below.refl _ _⟩
    · have h64' : (64 : Int) < (s.size : Int) := by omega
      have hV1 : V = false := by
        have hcons : L s = s[0] :: (L s).drop 1 := by
          have h := List.drop_eq_getElem_cons (l := L s) (i := 0) (by rw [L_len]; exact h0)
          rw [List.drop_zero, L_get h0] at h
          exact h
        have hlen := L_len s
        rw [HV.out]
        rw [hcons] at hlen ⊢
        simp only [wordP, hlen, decide_eq_false h64, Bool.false_and]
      go_enter Tryd.func41, Tryd.ntmps41
      go_wp2
      all_goals go_ret
      all_goals exact ⟨by first | (rw [hV1]; rfl) | rfl, Below.refl _ _⟩
  · have hL : L s = [] := nil_size.2 (by omega)
    have e0 : (s.toList == []) = true := by rw [toList_L, hL]; rfl
    have hV1 : V = false := by rw [HV.out, hL]; rfl
    clear hL
    go_enter Tryd.func41, Tryd.ntmps41
    go_wp2
    all_goals go_ret
    all_goals exact ⟨by first | (rw [hV1]; rfl) | rfl, Below.refl _ _⟩
end Go.Proofs.YtijmogehmcjopaaDoor
