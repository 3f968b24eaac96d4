/-
  The walks of edicttop.hexValue, edicttop.escape and lex.hex. Conditions: the text is at most 65536 bytes long; the place lies in it.
-/
import Derived.Test.YthidnjnaifcfoaaDoorW1
import Derived.IntWalk
namespace Go.Proofs.YthidnjnaifcfoaaDoor
open Go.RowKit Go.Shelf Pl

def hexI (c : UInt8) : Int := if hexV c < 16 then (hexV c : Int) else -1
theorem ret_i64 {a b : Int} (h : a = b) : Ending.returned (.int .i64 a) = .returned (.int .i64 b) := by rw [h]
theorem hexI_d {c : UInt8} (h : 48 ≤ c.toNat ∧ c.toNat ≤ 57) : hexI c = (c.toNat : Int) - 48 := by
  have : hexV c = c.toNat - 48 := by unfold hexV; rw [if_pos h]
  unfold hexI; rw [this, if_pos (by omega)]; omega
theorem hexI_l {c : UInt8} (h : 97 ≤ c.toNat ∧ c.toNat ≤ 102) : hexI c = (c.toNat : Int) - 97 + 10 := by
  have : hexV c = c.toNat - 97 + 10 := by unfold hexV; rw [if_neg (by omega), if_pos h]
  unfold hexI; rw [this, if_pos (by omega)]; omega
theorem hexI_u {c : UInt8} (h : 65 ≤ c.toNat ∧ c.toNat ≤ 70) : hexI c = (c.toNat : Int) - 65 + 10 := by
  have : hexV c = c.toNat - 65 + 10 := by unfold hexV; rw [if_neg (by omega), if_neg (by omega), if_pos h]
  unfold hexI; rw [this, if_pos (by omega)]; omega
theorem hexI_no {c : UInt8} (h1 : ¬ (48 ≤ c.toNat ∧ c.toNat ≤ 57)) (h2 : ¬ (97 ≤ c.toNat ∧ c.toNat ≤ 102)) (h3 : ¬ (65 ≤ c.toNat ∧ c.toNat ≤ 70)) : hexI c = -1 := by
  have : hexV c = 16 := by unfold hexV; rw [if_neg h1, if_neg h2, if_neg h3]
  unfold hexI; rw [this, if_neg (by omega)]

theorem hexValue_any (c : UInt8) (w : World) : Calls Tryd.prog 37 #[.int .u8 (c.toNat : Int)] w fun e w' => e = .returned (.int .i64 (hexI c)) ∧ w = w' := by
  have hc : c.toNat < 256 := c.toNat_lt
  obtain ⟨T, hT⟩ : ∃ T, T = hexI c := ⟨_, rfl⟩
  rw [← hT]
  have HT := Lib.hid hT
  clear hT
  go_enter Tryd.func37, Tryd.ntmps37
  by_cases h1 : 48 ≤ c.toNat ∧ c.toNat ≤ 57
  · have k1 : decide ((c.toNat : Int) ≥ 48) = true := decide_eq_true (by omega)
    have k2 : decide ((c.toNat : Int) ≤ 57) = true := decide_eq_true (by omega)
    have k3 : IntKind.u8.wrap ((c.toNat : Int) - 48) = (c.toNat : Int) - 48 := by rw [IntKind.wrap_u8]; omega
    have k4 : IntKind.i64.wrap ((c.toNat : Int) - 48) = (c.toNat : Int) - 48 := by rw [IntKind.wrap_i64]; omega
    have hf : Hid ((c.toNat : Int) - 48 = T) := by rw [HT.out]; exact (hexI_d h1).symm
    clear HT
    go_wp2
    go_ret
    exact ⟨ret_i64 hf.out, rfl⟩
  have g1 : (decide ((c.toNat : Int) ≥ 48) && decide ((c.toNat : Int) ≤ 57)) = false := by rw [Bool.and_eq_false_iff]; simp; omega
  by_cases h2 : 97 ≤ c.toNat ∧ c.toNat ≤ 102
  · have k1 : decide ((c.toNat : Int) ≥ 97) = true := decide_eq_true (by omega)
    have k0 : decide ((c.toNat : Int) ≥ 48) = true := decide_eq_true (by omega)
    have k00 : decide ((c.toNat : Int) ≤ 57) = false := decide_eq_false (by omega)
    have k2 : decide ((c.toNat : Int) ≤ 102) = true := decide_eq_true (by omega)
    have k3 : IntKind.u8.wrap ((c.toNat : Int) - 97) = (c.toNat : Int) - 97 := by rw [IntKind.wrap_u8]; omega
    have k4 : IntKind.i64.wrap ((c.toNat : Int) - 97) = (c.toNat : Int) - 97 := by rw [IntKind.wrap_i64]; omega
    have k5 : IntKind.i64.wrap ((c.toNat : Int) - 97 + 10) = (c.toNat : Int) - 97 + 10 := by rw [IntKind.wrap_i64]; omega
    have hf : Hid ((c.toNat : Int) - 97 + 10 = T) := by rw [HT.out]; exact (hexI_l h2).symm
    clear HT
    go_wp2
    go_ret
    exact ⟨ret_i64 hf.out, rfl⟩
  by_cases h3 : 65 ≤ c.toNat ∧ c.toNat ≤ 70
  · have k1 : decide ((c.toNat : Int) ≥ 97) = false := decide_eq_false (by omega)
    have k0 : decide ((c.toNat : Int) ≥ 48) = true := decide_eq_true (by omega)
    have k00 : decide ((c.toNat : Int) ≤ 57) = false := decide_eq_false (by omega)
    have k2 : decide ((c.toNat : Int) ≥ 65) = true := decide_eq_true (by omega)
    have k22 : decide ((c.toNat : Int) ≤ 70) = true := decide_eq_true (by omega)
    have k3 : IntKind.u8.wrap ((c.toNat : Int) - 65) = (c.toNat : Int) - 65 := by rw [IntKind.wrap_u8]; omega
    have k4 : IntKind.i64.wrap ((c.toNat : Int) - 65) = (c.toNat : Int) - 65 := by rw [IntKind.wrap_i64]; omega
    have k5 : IntKind.i64.wrap ((c.toNat : Int) - 65 + 10) = (c.toNat : Int) - 65 + 10 := by rw [IntKind.wrap_i64]; omega
    have hf : Hid ((c.toNat : Int) - 65 + 10 = T) := by rw [HT.out]; exact (hexI_u h3).symm
    clear HT
    go_wp2
    go_ret
    exact ⟨ret_i64 hf.out, rfl⟩
  have hf : Hid (-1 = T) := by rw [HT.out]; exact (hexI_no h1 h2 h3).symm
  have g2 : (decide ((c.toNat : Int) ≥ 97) && decide ((c.toNat : Int) ≤ 102)) = false := by rw [Bool.and_eq_false_iff]; simp; omega
  have g3 : (decide ((c.toNat : Int) ≥ 65) && decide ((c.toNat : Int) ≤ 70)) = false := by rw [Bool.and_eq_false_iff]; simp; omega
  clear HT
  go_wp2
  all_goals go_ret
  all_goals exact ⟨ret_i64 hf.out, rfl⟩

theorem hex_any (c : UInt8) (w : World) : Calls Tryd.prog 40 #[.int .u8 (c.toNat : Int)] w fun e w' => e = .returned (.int .i64 (hexI c)) ∧ w = w' := by
  have hc : c.toNat < 256 := c.toNat_lt
  obtain ⟨T, hT⟩ : ∃ T, T = hexI c := ⟨_, rfl⟩
  rw [← hT]
  have HT := Lib.hid hT
  clear hT
  go_enter Tryd.func40, Tryd.ntmps40
  by_cases h1 : 48 ≤ c.toNat ∧ c.toNat ≤ 57
  · have k3 : IntKind.u8.wrap ((c.toNat : Int) - 48) = (c.toNat : Int) - 48 := by rw [IntKind.wrap_u8]; omega
    have k4 : IntKind.i64.wrap ((c.toNat : Int) - 48) = (c.toNat : Int) - 48 := by rw [IntKind.wrap_i64]; omega
    have hf : Hid ((c.toNat : Int) - 48 = T) := by rw [HT.out]; exact (hexI_d h1).symm
    have hd : isD c = true := by simp [isD]; omega
    clear HT
    go_wp2_with fail
    refine (isD_any c w).mono ?_
    rintro e w' ⟨rfl, rfl⟩
    rw [hd]
    go_wp2
    go_ret
    exact ⟨ret_i64 hf.out, rfl⟩
  have hd : isD c = false := by simp [isD]; omega
  by_cases h2 : 97 ≤ c.toNat ∧ c.toNat ≤ 102
  · have k1 : decide (97 ≤ (c.toNat : Int)) = true := decide_eq_true (by omega)
    have k2 : decide ((c.toNat : Int) ≤ 102) = true := decide_eq_true (by omega)
    have k3 : IntKind.u8.wrap ((c.toNat : Int) - 97) = (c.toNat : Int) - 97 := by rw [IntKind.wrap_u8]; omega
    have k4 : IntKind.i64.wrap ((c.toNat : Int) - 97) = (c.toNat : Int) - 97 := by rw [IntKind.wrap_i64]; omega
    have k5 : IntKind.i64.wrap ((c.toNat : Int) - 97 + 10) = (c.toNat : Int) - 97 + 10 := by rw [IntKind.wrap_i64]; omega
    have hf : Hid ((c.toNat : Int) - 97 + 10 = T) := by rw [HT.out]; exact (hexI_l h2).symm
    clear HT
    go_wp2_with fail
    refine (isD_any c w).mono ?_
    rintro e w' ⟨rfl, rfl⟩
    rw [hd]
    go_wp2
    go_ret
    exact ⟨ret_i64 hf.out, rfl⟩
  by_cases h3 : 65 ≤ c.toNat ∧ c.toNat ≤ 70
  · have k1 : decide (97 ≤ (c.toNat : Int)) = false := decide_eq_false (by omega)
    have k2 : decide (65 ≤ (c.toNat : Int)) = true := decide_eq_true (by omega)
    have k22 : decide ((c.toNat : Int) ≤ 70) = true := decide_eq_true (by omega)
    have k3 : IntKind.u8.wrap ((c.toNat : Int) - 65) = (c.toNat : Int) - 65 := by rw [IntKind.wrap_u8]; omega
    have k4 : IntKind.i64.wrap ((c.toNat : Int) - 65) = (c.toNat : Int) - 65 := by rw [IntKind.wrap_i64]; omega
    have k5 : IntKind.i64.wrap ((c.toNat : Int) - 65 + 10) = (c.toNat : Int) - 65 + 10 := by rw [IntKind.wrap_i64]; omega
    have hf : Hid ((c.toNat : Int) - 65 + 10 = T) := by rw [HT.out]; exact (hexI_u h3).symm
    clear HT
    go_wp2_with fail
    refine (isD_any c w).mono ?_
    rintro e w' ⟨rfl, rfl⟩
    rw [hd]
    go_wp2
    go_ret
    exact ⟨ret_i64 hf.out, rfl⟩
  have hf : Hid (-1 = T) := by rw [HT.out]; exact (hexI_no h1 h2 h3).symm
  clear HT
  go_wp2_with fail
  refine (isD_any c w).mono ?_
  rintro e w' ⟨rfl, rfl⟩
  rw [hd]
  go_wp2
  all_goals go_ret
  all_goals first | exact ⟨ret_i64 hf.out, rfl⟩ | omega

/-- What an escape answers. -/
def EscIs (E : Option (UInt8 × Nat)) (e : Ending) : Prop :=
  match E with
  | none => e = .returned (.tuple #[.int .u8 0, .int .i64 0])
  | some (c, n) => e = .returned (.tuple #[.int .u8 (c.toNat : Int), .int .i64 (n : Int)])
theorem hexV_le (c : UInt8) : hexV c ≤ 16 := by
  unfold hexV
  repeat' split
  all_goals omega
theorem hexI_ge {c : UInt8} : decide (hexI c ≥ 0) = decide (hexV c < 16) := by
  unfold hexI
  split <;> simp <;> omega

theorem ofNat_back {n : Nat} (h : n < 256) : (UInt8.ofNat n).toNat = n := by
  simp only [UInt8.toNat_ofNat']
  omega
theorem hexValue_same (c : UInt8) (w : World) : Calls Tryd.prog 37 #[.int .u8 (c.toNat : Int)] w fun e w' => e = .returned (.int .i64 (hexI c)) ∧ w' = w :=
  (hexValue_any c w).mono fun _ _ h => ⟨h.1, h.2.symm⟩

set_option maxRecDepth 100000 in
set_option maxHeartbeats 3200000 in
theorem escape_any (s : ByteArray) (q : Nat) (w : World) (hq : q < s.size) (hs : s.size ≤ 65536) : Calls Tryd.prog 30 #[.string s, .int .i64 (q : Int)] w fun e w' => EscIs (esc ((L s).drop q)) e ∧ ∃ m, w' = w.drewN m := by
  obtain ⟨T, hT⟩ : ∃ T, T = esc ((L s).drop q) := ⟨_, rfl⟩
  rw [← hT]
  rw [L_drop hq] at hT
  have hw1 : IntKind.i64.wrap ((q : Int) + 1) = (q : Int) + 1 := by rw [IntKind.wrap_i64]; omega
  by_cases h1 : q + 1 < s.size
  · have k0 : decide ((q : Int) + 1 ≥ (s.size : Int)) = false := decide_eq_false (by omega)
    have k1 : (0 : Int) ≤ (q : Int) + 1 := by omega
    have k2 : (q : Int) + 1 < (s.size : Int) := by omega
    rw [L_drop h1] at hT
    obtain ⟨b, hb⟩ : ∃ b, b = s[q + 1] := ⟨_, rfl⟩
    rw [← hb] at hT
    have HB := Lib.hid hb
    have HT := Lib.hid hT
    clear hT hb
    go_enter Tryd.func30, Tryd.ntmps30
    go_upto_region 4 with fail
    rw [← HB.out]
    by_cases b34 : b.toNat = 34
    · have e34 : ((b.toNat : Int) == 34) = true := by simp; omega
      have hf : Hid (T = some (b, 2)) := Lib.hid (by rw [HT.out]; simp [esc, b34])
      clear HT
      go_wp2
      go_ret2
      exact ⟨by rw [hf.out, HB.out]; rfl, 0, rfl⟩
    have e34 : ((b.toNat : Int) == 34) = false := by simp; omega
    by_cases b92 : b.toNat = 92
    · have e92 : ((b.toNat : Int) == 92) = true := by simp; omega
      have hf : Hid (T = some (b, 2)) := Lib.hid (by rw [HT.out]; simp [esc, b92])
      clear HT
      go_wp2
      go_ret2
      exact ⟨by rw [hf.out, HB.out]; rfl, 0, rfl⟩
    have e92 : ((b.toNat : Int) == 92) = false := by simp; omega
    by_cases b110 : b.toNat = 110
    · have e110 : ((b.toNat : Int) == 110) = true := by simp; omega
      have hf : Hid (T = some (10, 2)) := Lib.hid (by rw [HT.out]; simp [esc, b110])
      clear HT
      go_wp2
      go_ret2
      exact ⟨by rw [hf.out]; rfl, 0, rfl⟩
    have e110 : ((b.toNat : Int) == 110) = false := by simp; omega
    by_cases b116 : b.toNat = 116
    · have e116 : ((b.toNat : Int) == 116) = true := by simp; omega
      have hf : Hid (T = some (9, 2)) := Lib.hid (by rw [HT.out]; simp [esc, b116])
      clear HT
      go_wp2
      go_ret2
      exact ⟨by rw [hf.out]; rfl, 0, rfl⟩
    have e116 : ((b.toNat : Int) == 116) = false := by simp; omega
    by_cases b114 : b.toNat = 114
    · have e114 : ((b.toNat : Int) == 114) = true := by simp; omega
      have hf : Hid (T = some (13, 2)) := Lib.hid (by rw [HT.out]; simp [esc, b114])
      clear HT
      go_wp2
      go_ret2
      exact ⟨by rw [hf.out]; rfl, 0, rfl⟩
    have e114 : ((b.toNat : Int) == 114) = false := by simp; omega
    by_cases b120 : b.toNat = 120
    · have e120 : ((b.toNat : Int) == 120) = true := by simp; omega
      have hT2 : T = match (L s).drop (q + 2) with
          | h :: l :: _ => if hexV h < 16 ∧ hexV l < 16 then some (UInt8.ofNat (hexV h * 16 + hexV l), 4) else none
          | _ => none := by rw [HT.out]; simp only [esc, b120]; rfl
      clear HT
      by_cases h3 : q + 3 < s.size
      · have k3 : decide ((q : Int) + 3 < (s.size : Int)) = true := decide_eq_true (by omega)
        have k31 : (0 : Int) ≤ (q : Int) + 3 := by omega
        have k32 : (q : Int) + 3 < (s.size : Int) := by omega
        have k21 : (0 : Int) ≤ (q : Int) + 2 := by omega
        have k22 : (q : Int) + 2 < (s.size : Int) := by omega
        have hw2 : IntKind.i64.wrap ((q : Int) + 2) = (q : Int) + 2 := by rw [IntKind.wrap_i64]; omega
        have hw3 : IntKind.i64.wrap ((q : Int) + 3) = (q : Int) + 3 := by rw [IntKind.wrap_i64]; omega
        rw [L_drop (show q + 2 < s.size by omega), L_drop h3] at hT2
        simp only at hT2
        have hT2 := Lib.hid hT2
        go_wp2_with fail
        refine (hexValue_any _ w).mono ?_
        rintro e w' ⟨rfl, rfl⟩
        have hle := hexV_le s[q + 2]
        have hle2 := hexV_le s[q + 3]
        by_cases x1 : hexV s[q + 2] < 16
        · have j1 : decide (hexI s[q + 2] ≥ 0) = true := by rw [hexI_ge]; exact decide_eq_true x1
          go_wp2_with fail
          refine (hexValue_any _ w).mono ?_
          rintro e w' ⟨rfl, rfl⟩
          by_cases x2 : hexV s[q + 3] < 16
          · have j2 : decide (hexI s[q + 3] ≥ 0) = true := by rw [hexI_ge]; exact decide_eq_true x2
            have i1 : hexI s[q + 2] = (hexV s[q + 2] : Int) := by unfold hexI; rw [if_pos x1]
            have i2 : hexI s[q + 3] = (hexV s[q + 3] : Int) := by unfold hexI; rw [if_pos x2]
            have m1 : IntKind.i64.wrap (hexI s[q + 2] * 16) = hexI s[q + 2] * 16 := by rw [IntKind.wrap_i64]; omega
            have m2 : IntKind.i64.wrap (hexI s[q + 2] * 16 + hexI s[q + 3]) = hexI s[q + 2] * 16 + hexI s[q + 3] := by rw [IntKind.wrap_i64]; omega
            have m3 : IntKind.u8.wrap (hexI s[q + 2] * 16 + hexI s[q + 3]) = hexI s[q + 2] * 16 + hexI s[q + 3] := by rw [IntKind.wrap_u8]; omega
            have hf : Hid (T = some (UInt8.ofNat (hexV s[q + 2] * 16 + hexV s[q + 3]), 4)) := Lib.hid (by rw [hT2.out, if_pos ⟨x1, x2⟩])
            have hu : Hid (hexI s[q + 2] * 16 + hexI s[q + 3] = ((UInt8.ofNat (hexV s[q + 2] * 16 + hexV s[q + 3])).toNat : Int)) := Lib.hid (by rw [i1, i2, ofNat_back (by omega)]; omega)
            clear i1 i2 hT2 hle hle2
            go_wp2_with fail
            go_quiet (first | ((go_at_call 37; exact Calls.quiet_of_same (hexValue_same _ _))))
            go_wp2
            go_ret2
            exact ⟨by rw [hf.out, hu.out]; rfl, _, rfl⟩
          · have j2 : decide (hexI s[q + 3] ≥ 0) = false := by rw [hexI_ge]; exact decide_eq_false x2
            have hf : Hid (T = none) := Lib.hid (by rw [hT2.out, if_neg (fun h => x2 h.2)])
            clear hT2
            go_wp2
            go_ret2
            exact ⟨by rw [hf.out]; rfl, 0, rfl⟩
        · have j1 : decide (hexI s[q + 2] ≥ 0) = false := by rw [hexI_ge]; exact decide_eq_false x1
          have hf : Hid (T = none) := Lib.hid (by rw [hT2.out, if_neg (fun h => x1 h.1)])
          clear hT2
          go_wp2
          go_ret2
          exact ⟨by rw [hf.out]; rfl, 0, rfl⟩
      · have k3 : decide ((q : Int) + 3 < (s.size : Int)) = false := decide_eq_false (by omega)
        have hw3 : IntKind.i64.wrap ((q : Int) + 3) = (q : Int) + 3 := by rw [IntKind.wrap_i64]; omega
        have hf : Hid (T = none) := by
          rw [hT2]
          have h5 : ((L s).drop (q + 2)).length ≤ 1 := by rw [List.length_drop, L_len]; omega
          match h6 : (L s).drop (q + 2) with
          | [] => rfl
          | [_] => rfl
          | _ :: _ :: _ => rw [h6] at h5; simp at h5
        clear hT2
        go_wp2
        go_ret2
        exact ⟨by rw [hf.out]; rfl, 0, rfl⟩
    have e120 : ((b.toNat : Int) == 120) = false := by simp; omega
    have hf : Hid (T = none) := Lib.hid (by rw [HT.out]; simp [esc, b34, b92, b110, b116, b114, b120])
    clear HT
    go_wp2
    go_ret2
    exact ⟨by rw [hf.out]; rfl, 0, rfl⟩
  · have k0 : decide ((q : Int) + 1 ≥ (s.size : Int)) = true := decide_eq_true (by omega)
    have hf : Hid (T = none) := by
      rw [hT, show (L s).drop (q + 1) = [] from List.drop_eq_nil_of_le (by rw [L_len]; omega)]; rfl
    clear hT
    go_enter Tryd.func30, Tryd.ntmps30
    go_wp2
    go_ret2
    exact ⟨by rw [hf.out]; rfl, 0, rfl⟩
end Go.Proofs.YthidnjnaifcfoaaDoor
