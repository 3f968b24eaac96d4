/-
  The walk of edicttop.skip: where a gap ends. Conditions: the text is at most 65536 bytes long.
-/
import Derived.Test.YthidnjnaifcfoaaDoorK1
namespace Go.Proofs.YthidnjnaifcfoaaDoor
open Go.RowKit Go.Shelf Pl

def L (s : ByteArray) : List UInt8 := s.data.toList
theorem L_len (s : ByteArray) : (L s).length = s.size := Array.length_toList
theorem L_get {s : ByteArray} {i : Nat} (h : i < s.size) : (L s)[i]'(by rw [L_len]; exact h) = s[i]'h := by
  simp only [L, Array.getElem_toList]; rfl
theorem L_drop {s : ByteArray} {i : Nat} (h : i < s.size) : (L s).drop i = s[i]'h :: (L s).drop (i + 1) := by
  rw [drop_at (by rw [L_len]; exact h), L_get h]
theorem L_end (s : ByteArray) : (L s).drop s.size = [] := List.drop_eq_nil_of_le (by rw [L_len]; exact Nat.le_refl _)

def SkipIs (s : ByteArray) (T : List UInt8 ⊕ List UInt8) (e : Ending) : Prop :=
  match T with
  | .inl r => e = .returned (.tuple #[.int .i64 ((s.size - r.length : Nat) : Int), .int .i64 (-1)])
  | .inr st => e = .returned (.tuple #[.int .i64 ((s.size - st.length : Nat) : Int), .int .i64 ((s.size - st.length : Nat) : Int)])

set_option maxRecDepth 100000 in
set_option maxHeartbeats 3200000 in
theorem skip_any (s : ByteArray) (p : Nat) (w : World) (hp : p ≤ s.size) (hs : s.size ≤ 65536) : Calls Tryd.prog 13 #[.string s, .int .i64 (p : Int)] w fun e w' => SkipIs s (gap .out ((L s).drop p)) e ∧ w = w' := by
  obtain ⟨T, hT⟩ : ∃ T, T = gap .out ((L s).drop p) := ⟨_, rfl⟩
  rw [← hT]
  have HT := Lib.hid hT.symm
  clear hT
  go_enter Tryd.func13, Tryd.ntmps13
  go_wp2
  go_loop [1] (fun k => ∃ q : Nat, k = .int .i64 (q : Int) ∧ q ≤ s.size ∧ Hid (gap .out ((L s).drop q) = T)) (fun k => s.size - (intOf k).toNat)
  case atStart => exact ⟨p, rfl, hp, HT⟩
  case round =>
    obtain ⟨q, rfl, hq, HQ⟩ := hrel
    by_cases h1 : q < s.size
    · have hqI : (q : Int) < (s.size : Int) := by omega
      have hq0 : (0 : Int) ≤ (q : Int) := by omega
      have HD := Lib.hid (L_drop h1)
      obtain ⟨c, hc⟩ : ∃ c, c = s[q] := ⟨_, rfl⟩
      go_upto_region 3 with fail
      rw [← hc] at HD ⊢
      have HCQ := Lib.hid hc
      clear hc
      have hw1 : IntKind.i64.wrap ((q : Int) + 1) = (q : Int) + 1 := by rw [IntKind.wrap_i64]; omega
      by_cases b32 : c.toNat = 32
      · have e32 : ((c.toNat : Int) == 32) = true := by simp; omega
        have HN : Hid (gap .out ((L s).drop (q + 1)) = T) := by rw [← gap_blank (a := c) (by simp [isB, b32]), ← HD.out]; exact HQ.out
        clear HD
        go_wp2
        go_round
        case rel => exact ⟨q + 1, by go_num, by omega, HN⟩
        case measure => simp only [intOf]; omega
      have e32 : ((c.toNat : Int) == 32) = false := by simp; omega
      by_cases b9 : c.toNat = 9
      · have e9 : ((c.toNat : Int) == 9) = true := by simp; omega
        have HN : Hid (gap .out ((L s).drop (q + 1)) = T) := by rw [← gap_blank (a := c) (by simp [isB, b9]), ← HD.out]; exact HQ.out
        clear HD
        go_wp2
        go_round
        case rel => exact ⟨q + 1, by go_num, by omega, HN⟩
        case measure => simp only [intOf]; omega
      have e9 : ((c.toNat : Int) == 9) = false := by simp; omega
      by_cases b10 : c.toNat = 10
      · have e10 : ((c.toNat : Int) == 10) = true := by simp; omega
        have HN : Hid (gap .out ((L s).drop (q + 1)) = T) := by rw [← gap_blank (a := c) (by simp [isB, b10]), ← HD.out]; exact HQ.out
        clear HD
        go_wp2
        go_round
        case rel => exact ⟨q + 1, by go_num, by omega, HN⟩
        case measure => simp only [intOf]; omega
      have e10 : ((c.toNat : Int) == 10) = false := by simp; omega
      by_cases b13 : c.toNat = 13
      · have e13 : ((c.toNat : Int) == 13) = true := by simp; omega
        have HN : Hid (gap .out ((L s).drop (q + 1)) = T) := by rw [← gap_blank (a := c) (by simp [isB, b13]), ← HD.out]; exact HQ.out
        clear HD
        go_wp2
        go_round
        case rel => exact ⟨q + 1, by go_num, by omega, HN⟩
        case measure => simp only [intOf]; omega
      have e13 : ((c.toNat : Int) == 13) = false := by simp; omega
      by_cases b37 : c.toNat = 37
      · have e37 : ((c.toNat : Int) == 37) = true := by simp; omega
        have HN : Hid (gap .line ((L s).drop q) = T) := by
          rw [HD.out]
          rw [HD.out, gap_mark b37] at HQ
          rw [line_step (by omega)]
          exact HQ.out
        clear HD HQ
        go_wp2
        go_loop [1] (fun k => ∃ q2 : Nat, k = .int .i64 (q2 : Int) ∧ q ≤ q2 ∧ q2 ≤ s.size ∧ Hid (gap .line ((L s).drop q2) = T)) (fun k => s.size - (intOf k).toNat)
        case atStart => exact ⟨q, rfl, Nat.le_refl _, hq, HN⟩
        case round =>
          obtain ⟨q2, rfl, hqq, hq2, HQ2⟩ := hrel
          by_cases h2 : q2 < s.size
          · have h2I : (q2 : Int) < (s.size : Int) := by omega
            have h20 : (0 : Int) ≤ (q2 : Int) := by omega
            have hw2 : IntKind.i64.wrap ((q2 : Int) + 1) = (q2 : Int) + 1 := by rw [IntKind.wrap_i64]; omega
            have HD2 := Lib.hid (L_drop h2)
            by_cases b10' : s[q2].toNat = 10
            · have e10' : ((s[q2].toNat : Int) != 10) = false := by simp; omega
              have hne : q2 ≠ q := fun e => by
                subst e
                have := HCQ.out
                rw [← this] at b10'
                omega
              have HN2 : Hid (gap .out ((L s).drop q2) = T) := by rw [HD2.out, ← line_stop b10', ← HD2.out]; exact HQ2.out
              clear HD2
              go_wp2
              go_round
              case rel => exact ⟨q2, by first | rfl | go_num, by omega, HN2⟩
              case measure => simp only [intOf]; omega
            · have e10' : ((s[q2].toNat : Int) != 10) = true := by simp; omega
              have HN2 : Hid (gap .line ((L s).drop (q2 + 1)) = T) := by rw [← line_step b10', ← HD2.out]; exact HQ2.out
              clear HD2
              go_wp2
              go_round
              case rel => exact ⟨q2 + 1, by go_num, by omega, by omega, HN2⟩
              case measure => simp only [intOf]; omega
          · have e : q2 = s.size := by omega
            have HN2 : Hid (gap .out ((L s).drop q2) = T) := by
              have h5 := HQ2.out
              rw [e, L_end] at h5 ⊢
              rw [← line_end]; exact h5
            go_wp2
            go_round
            case rel => exact ⟨q2, by first | rfl | go_num, by omega, HN2⟩
            case measure => simp only [intOf]; omega
      have e37 : ((c.toNat : Int) == 37) = false := by simp; omega
      by_cases b47 : c.toNat = 47 ∧ hdP (fun c => decide (c.toNat = 42)) ((L s).drop (q + 1)) = true
      · have h3 : q + 1 < s.size := by
          rcases Nat.lt_or_ge (q + 1) s.size with h5 | h5
          · exact h5
          · have h6 := b47.2
            rw [hdP_end (by rw [L_len]; exact h5)] at h6; cases h6
        have b42 : s[q + 1].toNat = 42 := by
          have h6 := b47.2
          rw [L_drop h3] at h6
          exact of_decide_eq_true h6
        have e47 : ((c.toNat : Int) != 47) = false := by simp; omega
        have e42 : ((s[q + 1].toNat : Int) != 42) = false := by simp; omega
        have h3I : (q : Int) + 1 < (s.size : Int) := by omega
        have h30 : (0 : Int) ≤ (q : Int) + 1 := by omega
        have hge : decide ((s.size : Int) ≤ (q : Int) + 1) = false := decide_eq_false (by omega)
        have hw2 : IntKind.i64.wrap ((q : Int) + 2) = (q : Int) + 2 := by rw [IntKind.wrap_i64]; omega
        have HN : Hid (gap (.block 1 ((L s).drop q)) ((L s).drop (q + 2)) = T) := by
          have h5 := HQ.out
          rw [HD.out, L_drop h3, gap_open b47.1 b42] at h5
          rw [HD.out, L_drop h3]; exact h5
        have hl0 : ((L s).drop q).length = s.size - q := by rw [List.length_drop, L_len]
        have HL0 := Lib.hid hl0
        clear b47 b42 HD HQ hl0
        go_wp2
        go_loop [1, 8] (fun k d => ∃ (q2 n : Nat), k = .int .i64 (q2 : Int) ∧ d = .int .i64 (n : Int) ∧ q < q2 ∧ q2 ≤ s.size ∧ n ≤ q2 ∧ Hid ((0 < n ∧ gap (.block n ((L s).drop q)) ((L s).drop q2) = T) ∨ (n = 0 ∧ gap .out ((L s).drop q2) = T))) (fun k _ => s.size - (intOf k).toNat)
        case atStart => exact ⟨q + 2, 1, by go_num, rfl, by omega, by omega, by omega, .inl ⟨by omega, HN⟩⟩
        case round =>
          obtain ⟨q2, n, rfl, rfl, hqq, hq2, hn2, HQ2⟩ := hrel
          by_cases hn : 0 < n
          · have hnI : decide ((n : Int) > 0) = true := decide_eq_true (by omega)
            have hx : gap (.block n ((L s).drop q)) ((L s).drop q2) = T := by
              rcases HQ2.out with h5 | h5
              · exact h5.2
              · omega
            have HX := Lib.hid hx
            have hw3 : IntKind.i64.wrap ((q2 : Int) + 1) = (q2 : Int) + 1 := by rw [IntKind.wrap_i64]; omega
            have hw4 : IntKind.i64.wrap ((q2 : Int) + 2) = (q2 : Int) + 2 := by rw [IntKind.wrap_i64]; omega
            have hw5 : IntKind.i64.wrap ((n : Int) + 1) = (n : Int) + 1 := by rw [IntKind.wrap_i64]; omega
            have hw6 : IntKind.i64.wrap ((n : Int) - 1) = (n : Int) - 1 := by rw [IntKind.wrap_i64]; omega
            clear hx HQ2
            by_cases h5 : q2 + 1 < s.size
            · have hgd : decide ((q2 : Int) + 1 ≥ (s.size : Int)) = false := decide_eq_false (by omega)
              have k0 : (q2 : Int) < (s.size : Int) := by omega
              have k1 : (0 : Int) ≤ (q2 : Int) := by omega
              have k2 : (q2 : Int) + 1 < (s.size : Int) := by omega
              have k3 : (0 : Int) ≤ (q2 : Int) + 1 := by omega
              have HD2 := Lib.hid (show (L s).drop q2 = s[q2] :: s[q2 + 1] :: (L s).drop (q2 + 2) by rw [L_drop (by omega), L_drop h5])
              by_cases x47 : s[q2].toNat = 47
              · have e1 : ((s[q2].toNat : Int) == 47) = true := by simp; omega
                have e2 : ((s[q2].toNat : Int) == 42) = false := by simp; omega
                by_cases y42 : s[q2 + 1].toNat = 42
                · have e3 : ((s[q2 + 1].toNat : Int) == 42) = true := by simp; omega
                  have HN3 : Hid (gap (.block (n + 1) ((L s).drop q)) ((L s).drop (q2 + 2)) = T) := by
                    have h6 := HX.out
                    rw [HD2.out, block_up x47 y42] at h6
                    exact h6
                  clear HD2
                  go_wp2
                  go_round
                  case rel => exact ⟨q2 + 2, n + 1, by go_num, by go_num, by omega, by omega, by omega, .inl ⟨by omega, HN3⟩⟩
                  case measure => simp only [intOf]; omega
                · have e3 : ((s[q2 + 1].toNat : Int) == 42) = false := by simp; omega
                  have HN3 : Hid (gap (.block n ((L s).drop q)) ((L s).drop (q2 + 1)) = T) := by
                    have h6 := HX.out
                    rw [HD2.out, block_step (by omega) (by omega)] at h6
                    rw [L_drop h5]; exact h6
                  clear HD2
                  go_wp2
                  go_round
                  case rel => exact ⟨q2 + 1, n, by go_num, rfl, by omega, by omega, by omega, .inl ⟨hn, HN3⟩⟩
                  case measure => simp only [intOf]; omega
              · have e1 : ((s[q2].toNat : Int) == 47) = false := by simp; omega
                by_cases x42 : s[q2].toNat = 42
                · have e2 : ((s[q2].toNat : Int) == 42) = true := by simp; omega
                  by_cases y47 : s[q2 + 1].toNat = 47
                  · have e3 : ((s[q2 + 1].toNat : Int) == 47) = true := by simp; omega
                    have HN3 : Hid ((0 < n - 1 ∧ gap (.block (n - 1) ((L s).drop q)) ((L s).drop (q2 + 2)) = T) ∨ (n - 1 = 0 ∧ gap .out ((L s).drop (q2 + 2)) = T)) := by
                      have h6 := HX.out
                      rw [HD2.out, block_down x42 y47] at h6
                      by_cases h7 : n = 1
                      · rw [if_pos h7] at h6; exact .inr ⟨by omega, h6⟩
                      · rw [if_neg h7] at h6; exact .inl ⟨by omega, h6⟩
                    have hn1 : (n : Int) - 1 = ((n - 1 : Nat) : Int) := by omega
                    clear HD2
                    go_wp2
                    go_round
                    case rel => exact ⟨q2 + 2, n - 1, by go_num, by first | (rw [← hn1]) | (rw [hw6, hn1]) | (simp only [hw6, hn1]), by omega, by omega, by omega, HN3⟩
                    case measure => simp only [intOf]; omega
                  · have e3 : ((s[q2 + 1].toNat : Int) == 47) = false := by simp; omega
                    have HN3 : Hid (gap (.block n ((L s).drop q)) ((L s).drop (q2 + 1)) = T) := by
                      have h6 := HX.out
                      rw [HD2.out, block_step (by omega) (by omega)] at h6
                      rw [L_drop h5]; exact h6
                    clear HD2
                    go_wp2
                    go_round
                    case rel => exact ⟨q2 + 1, n, by go_num, rfl, by omega, by omega, by omega, .inl ⟨hn, HN3⟩⟩
                    case measure => simp only [intOf]; omega
                · have e2 : ((s[q2].toNat : Int) == 42) = false := by simp; omega
                  have HN3 : Hid (gap (.block n ((L s).drop q)) ((L s).drop (q2 + 1)) = T) := by
                    have h6 := HX.out
                    rw [HD2.out, block_step (by omega) (by omega)] at h6
                    rw [L_drop h5]; exact h6
                  clear HD2
                  go_wp2
                  go_round
                  case rel => exact ⟨q2 + 1, n, by go_num, rfl, by omega, by omega, by omega, .inl ⟨hn, HN3⟩⟩
                  case measure => simp only [intOf]; omega
            · have hgd : decide ((q2 : Int) + 1 ≥ (s.size : Int)) = true := decide_eq_true (by omega)
              have hfin : Hid (SkipIs s T (.returned (.tuple #[.int .i64 (q : Int), .int .i64 (q : Int)]))) := by
                have h6 := HX.out
                rw [block_short _ _ _ (by rw [List.length_drop, L_len]; omega)] at h6
                unfold Hid SkipIs
                rw [← h6]
                simp only
                rw [HL0.out, show s.size - (s.size - q) = q by omega]
              go_wp2
              go_ret2
              exact ⟨hfin.out, rfl⟩
          · have hnI : decide ((n : Int) > 0) = false := decide_eq_false (by omega)
            have HN2 : Hid (gap .out ((L s).drop q2) = T) := by
              rcases HQ2.out with h5 | h5
              · omega
              · exact h5.2
            go_wp2
            go_round
            case rel => exact ⟨q2, by first | rfl | go_num, by omega, HN2⟩
            case measure => simp only [intOf]; omega
      · have HN : Hid (T = .inl ((L s).drop q)) := by
          rw [← HQ.out, HD.out]
          exact gap_stop (by simp [isB]; omega) b37 b47
        have hfin : Hid (SkipIs s T (.returned (.tuple #[.int .i64 (q : Int), .int .i64 (-1)]))) := by
          unfold Hid SkipIs
          rw [HN.out]
          simp only [List.length_drop, L_len]
          rw [show s.size - (s.size - q) = q by omega]
        by_cases b47' : c.toNat = 47
        · have e47 : ((c.toNat : Int) != 47) = false := by simp; omega
          by_cases h3 : q + 1 < s.size
          · have h4 : s[q + 1].toNat ≠ 42 := fun e => b47 ⟨b47', by rw [L_drop h3]; exact decide_eq_true e⟩
            have e42 : ((s[q + 1].toNat : Int) != 42) = true := by simp; omega
            have h3I : (q : Int) + 1 < (s.size : Int) := by omega
            have h30 : (0 : Int) ≤ (q : Int) + 1 := by omega
            have hge : decide ((s.size : Int) ≤ (q : Int) + 1) = false := decide_eq_false (by omega)
            clear b47 HD
            go_wp2
            go_ret2
            exact ⟨hfin.out, rfl⟩
          · have hge : decide ((s.size : Int) ≤ (q : Int) + 1) = true := decide_eq_true (by omega)
            clear b47 HD
            go_wp2
            go_ret2
            exact ⟨hfin.out, rfl⟩
        · have e47 : ((c.toNat : Int) != 47) = true := by simp; omega
          clear b47 HD
          go_wp2
          go_ret2
          exact ⟨hfin.out, rfl⟩
    · have e : q = s.size := by omega
      have hfin : Hid (SkipIs s T (.returned (.tuple #[.int .i64 (q : Int), .int .i64 (-1)]))) := by
        have h5 := HQ.out
        rw [e, L_end, gap_end] at h5
        unfold Hid SkipIs
        rw [← h5]
        simp only [List.length_nil, Nat.sub_zero, e]
      clear e
      go_wp2
      go_ret2
      exact ⟨hfin.out, rfl⟩
end Go.Proofs.YthidnjnaifcfoaaDoor
