/-
  The walk of lex's reader.escape. Conditions: the text is at most 65536 bytes long; the reader lies in a block of its own, at a byte of its text.
-/
import Derived.Test.YthidnjnaifcfoaaDoorW8
namespace Go.Proofs.YthidnjnaifcfoaaDoor
open Go.RowKit Go.Shelf Pl

theorem Rd.drewN {w : World} {X : Nat} {s : ByteArray} {a n : Nat} (h : Rd w X s a) : Rd (w.drewN n) X s a := h
theorem or_all : ∀ x y : Fin 16, bits BinOp.or IntKind.i64 (wrap64 ((x.val : Int) * 16)) (y.val : Int) % 256 = ((x.val * 16 + y.val : Nat) : Int) := by decide +kernel
theorem or_back {x y : Nat} (hx : x < 16) (hy : y < 16) : bits BinOp.or IntKind.i64 (wrap64 ((x : Int) * 16)) (y : Int) % 256 = ((x * 16 + y : Nat) : Int) := or_all ⟨x, hx⟩ ⟨y, hy⟩
theorem hexV_zero : hexV 0 = 16 := by decide
/-- An escape, by the bytes that stand there. -/
theorem esc_pk {s : ByteArray} {a : Nat} (ha : a < s.size) : esc ((L s).drop a) =
    if (pk s (a + 1)).toNat = 34 ∨ (pk s (a + 1)).toNat = 92 then some (pk s (a + 1), 2)
    else if (pk s (a + 1)).toNat = 110 then some (10, 2)
    else if (pk s (a + 1)).toNat = 116 then some (9, 2)
    else if (pk s (a + 1)).toNat = 114 then some (13, 2)
    else if (pk s (a + 1)).toNat = 120 then
      if hexV (pk s (a + 2)) < 16 ∧ hexV (pk s (a + 3)) < 16 then some (UInt8.ofNat (hexV (pk s (a + 2)) * 16 + hexV (pk s (a + 3))), 4) else none
    else none := by
  rw [L_drop ha]
  unfold pk
  by_cases h1 : a + 1 < s.size
  · rw [L_drop h1]
    simp only [hd0, esc]
    by_cases h2 : a + 2 < s.size
    · rw [L_drop (show a + 1 + 1 < s.size from h2)]
      by_cases h3 : a + 3 < s.size
      · rw [L_drop (show a + 1 + 1 + 1 < s.size from h3)]
        rfl
      · rw [show (L s).drop (a + 1 + 1 + 1) = [] from List.drop_eq_nil_of_le (by rw [L_len]; omega)]
        simp [hexV_zero]
    · rw [show (L s).drop (a + 1 + 1) = [] from List.drop_eq_nil_of_le (by rw [L_len]; omega)]
      simp [hexV_zero]
  · rw [show (L s).drop (a + 1) = [] from List.drop_eq_nil_of_le (by rw [L_len]; omega)]
    simp [hd0, esc]

set_option maxRecDepth 100000 in
set_option maxHeartbeats 3200000 in
theorem lexEscape_any (s : ByteArray) (a X : Nat) (w : World) (hs : s.size ≤ 65536) (ha : a < s.size) (hR : Rd w X s a) :
    Calls Tryd.prog 36 #[.pointer (some ⟨X, 0, none⟩)] w fun e w' => EscIs (esc ((L s).drop a)) e ∧ ∃ n, w' = w.drewN n := by
  obtain ⟨T, hT⟩ : ∃ T, T = esc ((L s).drop a) := ⟨_, rfl⟩
  rw [← hT]
  rw [esc_pk ha] at hT
  have HR := Lib.hid hR
  clear hR
  obtain ⟨b, hb⟩ : ∃ b, b = pk s (a + 1) := ⟨_, rfl⟩
  rw [← hb] at hT
  have HB := Lib.hid hb
  have HT := Lib.hid hT
  clear hT hb
  go_enter Tryd.func36, Tryd.ntmps36
  go_wp2_with fail
  refine (peek_any s a 1 X _ hs (by omega) (by omega) HR.out).mono ?_
  rintro e w' ⟨rfl, n, rfl⟩
  rw [← HB.out]
  by_cases b34 : b.toNat = 34
  · have e34 : ((b.toNat : Int) == 34) = true := by simp; omega
    have hf : Hid (T = some (b, 2)) := Lib.hid (by rw [HT.out, if_pos (.inl b34)])
    have hv : Hid (EscIs T (.returned (.tuple #[.int .u8 34, .int .i64 2]))) := Lib.hid (by rw [hf.out]; show _ = Ending.returned (.tuple #[.int .u8 (b.toNat : Int), .int .i64 2]); rw [b34]; rfl)
    clear HT hf b34
    go_wp2
    go_ret2
    exact ⟨hv.out, n, rfl⟩
  have e34 : ((b.toNat : Int) == 34) = false := by simp; omega
  by_cases b92 : b.toNat = 92
  · have e92 : ((b.toNat : Int) == 92) = true := by simp; omega
    have hf : Hid (T = some (b, 2)) := Lib.hid (by rw [HT.out, if_pos (.inr b92)])
    have hv : Hid (EscIs T (.returned (.tuple #[.int .u8 92, .int .i64 2]))) := Lib.hid (by rw [hf.out]; show _ = Ending.returned (.tuple #[.int .u8 (b.toNat : Int), .int .i64 2]); rw [b92]; rfl)
    clear HT hf b92
    go_wp2
    go_ret2
    exact ⟨hv.out, n, rfl⟩
  have e92 : ((b.toNat : Int) == 92) = false := by simp; omega
  rw [if_neg (by omega)] at HT
  by_cases b110 : b.toNat = 110
  · have e110 : ((b.toNat : Int) == 110) = true := by simp; omega
    have hv : Hid (EscIs T (.returned (.tuple #[.int .u8 10, .int .i64 2]))) := Lib.hid (by rw [HT.out, if_pos b110]; rfl)
    clear HT b110
    go_wp2
    go_ret2
    exact ⟨hv.out, n, rfl⟩
  have e110 : ((b.toNat : Int) == 110) = false := by simp; omega
  rw [if_neg b110] at HT
  by_cases b116 : b.toNat = 116
  · have e116 : ((b.toNat : Int) == 116) = true := by simp; omega
    have hv : Hid (EscIs T (.returned (.tuple #[.int .u8 9, .int .i64 2]))) := Lib.hid (by rw [HT.out, if_pos b116]; rfl)
    clear HT b116
    go_wp2
    go_ret2
    exact ⟨hv.out, n, rfl⟩
  have e116 : ((b.toNat : Int) == 116) = false := by simp; omega
  rw [if_neg b116] at HT
  by_cases b114 : b.toNat = 114
  · have e114 : ((b.toNat : Int) == 114) = true := by simp; omega
    have hv : Hid (EscIs T (.returned (.tuple #[.int .u8 13, .int .i64 2]))) := Lib.hid (by rw [HT.out, if_pos b114]; rfl)
    clear HT b114
    go_wp2
    go_ret2
    exact ⟨hv.out, n, rfl⟩
  have e114 : ((b.toNat : Int) == 114) = false := by simp; omega
  rw [if_neg b114] at HT
  by_cases b120 : b.toNat = 120
  · have e120 : ((b.toNat : Int) == 120) = true := by simp; omega
    rw [if_pos b120] at HT
    clear b120
    go_wp2_with fail
    refine (peek_any s a 2 X _ hs (by omega) (by omega) HR.out.drewN).mono ?_
    rintro e w' ⟨rfl, n2, rfl⟩
    go_wp2_with fail
    refine (hex_any _ _).mono ?_
    rintro e w' ⟨rfl, rfl⟩
    go_wp2_with fail
    refine (peek_any s a 3 X _ hs (by omega) (by omega) HR.out.drewN).mono ?_
    rintro e w' ⟨rfl, n3, rfl⟩
    go_wp2_with fail
    refine (hex_any _ _).mono ?_
    rintro e w' ⟨rfl, rfl⟩
    by_cases x1 : hexV (pk s (a + 2)) < 16
    · have j1 : decide (hexI (pk s (a + 2)) ≥ 0) = true := by rw [hexI_ge]; exact decide_eq_true x1
      by_cases x2 : hexV (pk s (a + 3)) < 16
      · have j2 : decide (hexI (pk s (a + 3)) ≥ 0) = true := by rw [hexI_ge]; exact decide_eq_true x2
        have hv : Hid (EscIs T (.returned (.tuple #[.int .u8 (bits BinOp.or IntKind.i64 (wrap64 (hexI (pk s (a + 2)) * 16)) (hexI (pk s (a + 3))) % 256), .int .i64 4]))) := Lib.hid (by
          rw [HT.out, if_pos ⟨x1, x2⟩, show hexI (pk s (a + 2)) = (hexV (pk s (a + 2)) : Int) by unfold hexI; rw [if_pos x1], show hexI (pk s (a + 3)) = (hexV (pk s (a + 3)) : Int) by unfold hexI; rw [if_pos x2],
            or_back x1 x2]
          show _ = Ending.returned (.tuple #[.int .u8 ((UInt8.ofNat (hexV (pk s (a + 2)) * 16 + hexV (pk s (a + 3)))).toNat : Int), .int .i64 4])
          rw [ofNat_back (by omega)])
        clear HT
        go_wp2
        go_ret2
        exact ⟨hv.out, _, rfl⟩
      · have j2 : decide (hexI (pk s (a + 3)) ≥ 0) = false := by rw [hexI_ge]; exact decide_eq_false x2
        have hv : Hid (EscIs T (.returned (.tuple #[.int .u8 0, .int .i64 0]))) := Lib.hid (by rw [HT.out, if_neg (fun h => x2 h.2)]; rfl)
        clear HT
        go_wp2
        go_ret2
        exact ⟨hv.out, _, rfl⟩
    · have j1 : decide (hexI (pk s (a + 2)) ≥ 0) = false := by rw [hexI_ge]; exact decide_eq_false x1
      have hv : Hid (EscIs T (.returned (.tuple #[.int .u8 0, .int .i64 0]))) := Lib.hid (by rw [HT.out, if_neg (fun h => x1 h.1)]; rfl)
      clear HT
      go_wp2
      go_ret2
      exact ⟨hv.out, _, rfl⟩
  have e120 : ((b.toNat : Int) == 120) = false := by simp; omega
  have hv : Hid (EscIs T (.returned (.tuple #[.int .u8 0, .int .i64 0]))) := Lib.hid (by rw [HT.out, if_neg b120]; rfl)
  clear HT
  go_wp2
  go_ret2
  exact ⟨hv.out, n, rfl⟩
end Go.Proofs.YthidnjnaifcfoaaDoor
