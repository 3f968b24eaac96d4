/-
  The walk of edicttop.quoted, at a text's spelling. Conditions: the spelling is at most 65536 bytes long and is read as that text.
-/
import Derived.Test.YthidnjnaifcfoaaDoorW3
namespace Go.Proofs.YthidnjnaifcfoaaDoor
open Go.RowKit Go.Shelf Pl

/-- A spelling of a text ends with its quote. -/
theorem txt_quote : ∀ (k : Nat) (acc w t : List UInt8), w.length ≤ k → txt acc w = .ok t [] → ∃ u c, w = u ++ [c] ∧ c.toNat = 34
  | 0, acc, w, t, hk, h => by
    have : w = [] := List.length_eq_zero_iff.1 (by omega)
    subst this
    rw [txt_nil] at h; cases h
  | k + 1, acc, [], t, hk, h => by rw [txt_nil] at h; cases h
  | k + 1, acc, [a], t, hk, h => ⟨[], a, rfl, (txt_last h).1⟩
  | k + 1, acc, a :: b :: r, t, hk, h => by
    obtain ⟨_, _, h3⟩ := txt_more h
    rcases h3 with ⟨_, c, n, he, hn, hr⟩ | ⟨_, hr⟩
    · have h2 := esc_len he
      obtain ⟨u, c', hu, hc⟩ := txt_quote k _ _ _ (by rw [List.length_drop]; simp at hk ⊢; omega) hr
      refine ⟨(a :: b :: r).take n ++ u, c', ?_, hc⟩
      rw [List.append_assoc, ← hu, List.take_append_drop]
    · obtain ⟨u, c', hu, hc⟩ := txt_quote k _ _ _ (by simp at hk ⊢; omega) hr
      exact ⟨a :: u, c', by rw [hu]; rfl, hc⟩
/-- The byte that comes next is the text's next byte. -/
theorem pre_at {v : List UInt8} {k : Nat} {c : UInt8} {z : List UInt8} (hk : k ≤ v.length) (h : v = v.take k ++ [c] ++ z) : ∃ h1 : k < v.length, v[k] = c ∧ v.take (k + 1) = v.take k ++ [c] := by
  have hl : (v.take k).length = k := by rw [List.length_take]; omega
  have h1 : k < v.length := by
    rw [h]; simp [hl]
  have h2 : v[k] = c := by
    have h3 : v[k]? = some c := by
      rw [h, List.append_assoc, List.getElem?_append_right (by omega), hl]
      simp
    rw [List.getElem?_eq_getElem h1] at h3
    exact Option.some.inj h3
  exact ⟨h1, h2, by rw [List.take_succ_eq_append_getElem h1, h2]⟩

set_option maxRecDepth 100000 in
set_option maxHeartbeats 3200000 in
theorem quoted_any (s v : ByteArray) (w : World) (hs : s.size ≤ 65536) (c0 : UInt8) (r : List UInt8) (hL : L s = c0 :: r) (hc0 : c0.toNat = 34) (hr : txt [] r = .ok (L v) []) : Calls Tryd.prog 29 #[.string s, .string v] w fun e w' => e = .returned (.bool true) ∧ ∃ m, w' = w.drewN m := by
  obtain ⟨u, cl, hu, hcl⟩ := txt_quote r.length _ _ _ (Nat.le_refl _) hr
  have hlen : s.size = u.length + 2 := by rw [← L_len, hL, hu]; simp
  obtain ⟨m, hm⟩ : ∃ m, m = u.length + 1 := ⟨_, rfl⟩
  have hms : s.size = m + 1 := by omega
  have hm1 : 1 ≤ m := by omega
  have h0 : 0 < s.size := by omega
  have h0I : (0 : Int) < (s.size : Int) := by omega
  have hmI : (m : Int) < (s.size : Int) := by omega
  have hm0 : (0 : Int) ≤ (m : Int) := by omega
  have hmlt : m < s.size := by omega
  have hmle : (m : Int) ≤ (s.size : Int) := by omega
  have hwm : IntKind.i64.wrap ((s.size : Int) - 1) = (m : Int) := by rw [IntKind.wrap_i64]; omega
  have h2 : decide ((s.size : Int) < 2) = false := decide_eq_false (by omega)
  have ec0 : s[0] = c0 := by
    have h5 := L_drop h0
    rw [List.drop_zero, hL] at h5
    injection h5 with h6 h7
    exact h6.symm
  have ecm : s[m] = cl := by
    have h5 : (L s)[m]'(by rw [L_len]; exact hmlt) = cl := by
      simp only [hL, hu, hm]
      simp
    rw [L_get hmlt] at h5; exact h5
  have e1 : ((s[0].toNat : Int) != 34) = false := by rw [ec0]; simp; omega
  have e2 : ((s[m].toNat : Int) != 34) = false := by rw [ecm]; simp; omega
  have hstart : Hid (txt ((L v).take 0) ((L s).drop 1) = .ok (L v) []) := by
    rw [hL, List.take_zero]; exact Lib.hid hr
  have HE1 := Lib.hid e1
  obtain ⟨sc, hsc⟩ : ∃ sc, sc = s.extract 0 m := ⟨_, rfl⟩
  have HLsc : Hid (L s = L sc ++ [cl]) := by
    refine Lib.hid ?_
    rw [hsc, L_extract, List.drop_zero, hL, hu, hm]
    simp
  have HSC := Lib.hid hsc
  have hscs : sc.size = m := by
    have := HLsc.out
    have h5 := congrArg List.length this
    rw [List.length_append, L_len, L_len] at h5
    simp at h5; omega
  clear hL hr hu ec0 ecm hsc hcl hm hlen hc0
  go_enter Tryd.func29, Tryd.ntmps29
  go_wp2
  go_loopw [5, 6] (fun k i wr => ∃ (a j : Nat), k = .int .i64 (a : Int) ∧ i = .int .i64 (j : Int) ∧ a ≤ v.size ∧ a ≤ j ∧ j ≤ m ∧ Hid (txt ((L v).take a) ((L s).drop j) = .ok (L v) []) ∧ ∃ x, wr = w.drewN x) (fun _ i _ => m - (intOf i).toNat)
  case atStart => exact ⟨0, 1, by first | rfl | go_num, by first | rfl | go_num, by omega, by omega, by omega, hstart, 0, rfl⟩
  case round =>
    obtain ⟨a, j, rfl, rfl, ha, haj, hj, HQ, x, rfl⟩ := hrel
    by_cases h1 : j < m
    · have hjs : j < s.size := by omega
      have k0 : (0 : Int) ≤ (j : Int) := by omega
      have k1 : (j : Int) < (s.size : Int) := by omega
      have k2 : decide ((j : Int) < (m : Int)) = true := decide_eq_true (by omega)
      obtain ⟨c, hc⟩ : ∃ c, c = s[j] := ⟨_, rfl⟩
      obtain ⟨hb, hrest⟩ : ∃ b, (L s).drop j = c :: b :: (L s).drop (j + 2) := ⟨s[j + 1], by rw [L_drop hjs, L_drop (show j + 1 < s.size by omega), hc]⟩
      obtain ⟨hm1', hm2', hm3'⟩ := txt_more (by rw [← hrest]; exact HQ.out)
      have HC := Lib.hid hc
      have HR := Lib.hid hrest
      have HM := Lib.hid hm3'
      clear hc hrest hm3'
      have e34 : ((c.toNat : Int) == 34) = false := by simp; omega
      have e32 : decide ((c.toNat : Int) < 32) = false := decide_eq_false (by omega)
      go_upto_region 7 with fail
      rw [← HC.out]
      by_cases b92 : c.toNat = 92
      · have e92 : ((c.toNat : Int) == 92) = true := by simp; omega
        obtain ⟨c', n, hes, hn, hnx⟩ : ∃ c' n, esc ((L s).drop j) = some (c', n) ∧ n < ((L s).drop j).length ∧ txt ((L v).take a ++ [c']) ((L s).drop (j + n)) = .ok (L v) [] := by
          rcases HM.out with h5 | h5
          · obtain ⟨_, c', n, h6, h7, h8⟩ := h5
            refine ⟨c', n, by rw [HR.out]; exact h6, by rw [HR.out]; simpa using h7, ?_⟩
            rw [← HR.out, List.drop_drop] at h8
            exact h8
          · exact absurd b92 h5.1
        have hn2 := esc_len hes
        have hjn : j + n ≤ m := by
          rw [List.length_drop, L_len] at hn; omega
        have hes2 : esc ((L sc).drop j) = some (c', n) := by
          refine esc_self hes (u := (L sc).drop j) (rest := [cl]) ?_ ?_
          · rw [HLsc.out, List.drop_append_of_le_length (by rw [L_len]; omega)]
          · rw [List.length_drop, L_len]; omega
        obtain ⟨z, hz⟩ := txt_pre _ _ _ _ _ (Nat.le_refl _) hnx
        obtain ⟨g1, g2, g3⟩ := pre_at (by rw [L_len]; exact ha) hz
        rw [L_len] at g1
        have g2' : v[a] = c' := by rw [← L_get g1]; exact g2
        have HN : Hid (txt ((L v).take (a + 1)) ((L s).drop (j + n)) = .ok (L v) []) := by rw [g3]; exact Lib.hid hnx
        have e5 : decide ((a : Int) ≥ (v.size : Int)) = false := decide_eq_false (by omega)
        have e6 : ((v[a].toNat : Int) != (c'.toNat : Int)) = false := by rw [g2']; simp
        have e8 : ((n : Int) == 0) = false := by simp; omega
        have a0 : (0 : Int) ≤ (a : Int) := by omega
        have a1 : (a : Int) < (v.size : Int) := by omega
        have hwa : IntKind.i64.wrap ((a : Int) + 1) = (a : Int) + 1 := by rw [IntKind.wrap_i64]; omega
        have hwj : IntKind.i64.wrap ((j : Int) + (n : Int)) = (j : Int) + (n : Int) := by rw [IntKind.wrap_i64]; omega
        have HES := Lib.hid hes2
        clear hnx hz g2 g3 g2' HM HR hes hes2 hn
        go_wp2_with fail
        rw [← HSC.out]
        refine (escape_any sc j _ (by omega) (by omega)).mono ?_
        rintro e w' ⟨he, x2, rfl⟩
        rw [HES.out] at he
        subst he
        go_wp2
        go_round
        case rel => exact ⟨a + 1, j + n, by go_num, by go_num, by omega, by omega, by omega, HN, _, rfl⟩
        case measure => simp only [intOf]; omega
      · have e92 : ((c.toNat : Int) == 92) = false := by simp; omega
        have hnx : txt ((L v).take a ++ [c]) ((L s).drop (j + 1)) = .ok (L v) [] := by
          rcases HM.out with h5 | h5
          · exact absurd h5.1 b92
          · have h6 := h5.2
            rw [L_drop hjs] at HR
            have h7 := HR.out
            injection h7 with _ h8
            rw [h8]; exact h6
        obtain ⟨z, hz⟩ := txt_pre _ _ _ _ _ (Nat.le_refl _) hnx
        obtain ⟨g1, g2, g3⟩ := pre_at (by rw [L_len]; exact ha) hz
        rw [L_len] at g1
        have g2' : v[a] = c := by rw [← L_get g1]; exact g2
        have HN : Hid (txt ((L v).take (a + 1)) ((L s).drop (j + 1)) = .ok (L v) []) := by rw [g3]; exact Lib.hid hnx
        have e5 : decide ((a : Int) ≥ (v.size : Int)) = false := decide_eq_false (by omega)
        have e6 : ((v[a].toNat : Int) != (c.toNat : Int)) = false := by rw [g2']; simp
        have a0 : (0 : Int) ≤ (a : Int) := by omega
        have a1 : (a : Int) < (v.size : Int) := by omega
        have hwa : IntKind.i64.wrap ((a : Int) + 1) = (a : Int) + 1 := by rw [IntKind.wrap_i64]; omega
        have hwj : IntKind.i64.wrap ((j : Int) + 1) = (j : Int) + 1 := by rw [IntKind.wrap_i64]; omega
        clear hnx hz g2 g3 g2' HM HR
        go_wp2
        go_round
        case rel => exact ⟨a + 1, j + 1, by go_num, by go_num, by omega, by omega, by omega, HN, x, rfl⟩
        case measure => simp only [intOf]; omega
    · have e : j = m := by omega
      have hend : L v = (L v).take a := by
        have h5 := HQ.out
        rw [L_drop (show j < s.size by omega), show (L s).drop (j + 1) = [] from List.drop_eq_nil_of_le (by rw [L_len]; omega)] at h5
        exact (txt_last h5).2
      have hav : a = v.size := by
        have h5 := congrArg List.length hend
        rw [List.length_take, L_len] at h5
        omega
      have e7 : ((a : Int) == (v.size : Int)) = true := by simp; omega
      clear hend e
      go_wp2
      go_ret
      exact ⟨rfl, x, rfl⟩
end Go.Proofs.YthidnjnaifcfoaaDoor
