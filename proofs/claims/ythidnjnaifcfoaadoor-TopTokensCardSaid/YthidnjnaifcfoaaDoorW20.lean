/-
  The walk of edicttop.spells at texts, numbers and words. Conditions: the spelling is at most 65536 bytes long and is that token.
-/
import Derived.Test.YthidnjnaifcfoaaDoorW18
namespace Go.Proofs.YthidnjnaifcfoaaDoor
open Go.RowKit Go.Shelf Pl

set_option maxRecDepth 100000 in
set_option maxHeartbeats 3200000 in
theorem spells_text (s tx : ByteArray) (off fin : Nat) (w : World) (hs : s.size ≤ 65536) (c0 : UInt8) (r : List UInt8) (hL : L s = c0 :: r) (hc0 : c0.toNat = 34) (hr : txt [] r = .ok (L tx) []) (hl : tx.size ≤ 255) :
    Calls Tryd.prog 14 #[.string s, .agg #[.int .i64 4, .string tx, .int .i64 0, .int .i64 0, .int .i64 (off : Int), .int .i64 (fin : Int)]] w fun e w' => e = .returned (.bool true) ∧ Below w.heap.size w w' := by
  have hl2 : decide ((tx.size : Int) ≤ 255) = true := decide_eq_true (by omega)
  have hs0 : 0 < s.size := by rw [← L_len, hL]; simp
  have hsn : (s.toList == []) = false := by
    rw [beq_eq_false_iff_ne, ByteArray.toList_eq]
    intro h
    have h2 : L s = [] := h
    rw [hL] at h2; cases h2
  have HL := Lib.hid hL
  have HR := Lib.hid hr
  have HC := Lib.hid hc0
  clear hL hr hc0
  go_enter Tryd.func14, Tryd.ntmps14
  go_wp2_with fail
  refine (quoted_any s tx _ hs c0 r HL.out HC.out HR.out).mono ?_
  rintro e w' ⟨rfl, m, rfl⟩
  go_wp2
  go_ret
  exact ⟨rfl, below_drewN (up_alloc _ _)⟩
theorem int_shape {s : ByteArray} (h : IntSp (L s)) : ∃ (F : Nat) (h0 : 0 < s.size), ((s[0].toNat = 45 ∧ F = 1) ∨ (s[0].toNat ≠ 45 ∧ F = 0)) ∧ F < s.size ∧ ∀ j (hj : j < s.size), F ≤ j → isD s[j] = true := by
  obtain ⟨f, h1, h2, h3⟩ := h
  have hf : 0 < f.length := by cases f with
    | nil => exact absurd rfl h2
    | cons => simp
  rcases h1 with h1 | ⟨c, h1, hc⟩
  · have hz : 0 < s.size := by rw [← L_len, h1]; exact hf
    have hall : ∀ j (hj : j < s.size), isD s[j] = true := fun j hj => by
      rw [← L_get hj]
      simp only [h1]
      exact all_at h3 _
    refine ⟨0, hz, .inr ⟨fun h => ?_, rfl⟩, hz, fun j hj _ => hall j hj⟩
    have := hall 0 hz
    simp [isD, h] at this
  · have hz : s.size = f.length + 1 := by rw [← L_len, h1]; simp
    have h0 : 0 < s.size := by omega
    refine ⟨1, h0, .inl ⟨?_, rfl⟩, by omega, fun j hj h1j => ?_⟩
    · rw [← L_get h0]; simp only [h1]; exact hc
    · rw [← L_get hj]
      have h5 : (L s)[j]'(by rw [L_len]; exact hj) = f[j - 1]'(by omega) := by
        simp only [h1]
        rw [List.getElem_cons]
        rw [dif_neg (by omega)]
      rw [h5]; exact all_at h3 _

set_option maxRecDepth 100000 in
set_option maxHeartbeats 3200000 in
theorem spells_int (s : ByteArray) (v : Int) (off fin : Nat) (w : World) (hs : s.size ≤ 65536) (hsp : IntSp (L s)) (hv : intV (L s) = some v) :
    Calls Tryd.prog 14 #[.string s, .agg #[.int .i64 3, .string { data := #[] }, .int .i64 v, .int .i64 0, .int .i64 (off : Int), .int .i64 (fin : Int)]] w fun e w' => e = .returned (.bool true) ∧ Below w.heap.size w w' := by
  obtain ⟨F, h0, hF, hFs, hall⟩ := int_shape hsp
  have hsn : (s.toList == []) = false := by
    rw [beq_eq_false_iff_ne, ByteArray.toList_eq]
    intro h
    have h2 : L s = [] := h
    have := L_len s
    rw [h2] at this; simp at this; omega
  have h0I : (0 : Int) < (s.size : Int) := by omega
  have HSP := Lib.hid hsp
  have HV := Lib.hid hv
  have HALL := Lib.hid hall
  clear hsp hv hall
  go_enter Tryd.func14, Tryd.ntmps14
  rcases hF with ⟨h45, rfl⟩ | ⟨h45, rfl⟩
  · have e45 : ((s[0].toNat : Int) == 45) = true := by simp; omega
    have k9 : ((s.size : Int) == 1) = false := by rw [beq_eq_false_iff_ne]; omega
    clear h45
    go_wp2
    go_loop [8] (fun k => ∃ q : Nat, k = .int .i64 (q : Int) ∧ 1 ≤ q ∧ q ≤ s.size) (fun k => s.size - (intOf k).toNat)
    case atStart => exact ⟨1, rfl, Nat.le_refl _, by first | omega | exact Nat.zero_le _⟩
    case round =>
      obtain ⟨q, rfl, hFq, hq⟩ := hrel
      by_cases h1 : q < s.size
      · have j0 : (0 : Int) ≤ (q : Int) := by omega
        have j1 : (q : Int) < (s.size : Int) := by omega
        have hwq : IntKind.i64.wrap ((q : Int) + 1) = (q : Int) + 1 := by rw [IntKind.wrap_i64]; omega
        have hd := HALL.out q h1 hFq
        go_wp2_with fail
        refine (digit_any s[q] _).mono ?_
        rintro e w' ⟨rfl, rfl⟩
        rw [hd]
        go_wp2
        go_round
        case rel => exact ⟨q + 1, by go_num, by omega, by omega⟩
        case measure => simp only [intOf]; omega
      · have j1 : ¬ (q : Int) < (s.size : Int) := by omega
        go_wp2_with fail
        refine (whole_any s _ h0 hs HSP.out).mono ?_
        rintro e w' ⟨he, rfl⟩
        rw [HV.out] at he
        have he2 : e = .returned (.tuple #[.int .i64 v, .bool true]) := he
        subst he2
        clear he
        go_wp2
        go_ret
        exact ⟨rfl, up_alloc _ _⟩
  · have e45 : ((s[0].toNat : Int) == 45) = false := by simp; omega
    have k9 : ((s.size : Int) == 0) = false := by rw [beq_eq_false_iff_ne]; omega
    clear h45
    go_wp2
    go_loop [8] (fun k => ∃ q : Nat, k = .int .i64 (q : Int) ∧ 0 ≤ q ∧ q ≤ s.size) (fun k => s.size - (intOf k).toNat)
    case atStart => exact ⟨0, rfl, Nat.le_refl _, by first | omega | exact Nat.zero_le _⟩
    case round =>
      obtain ⟨q, rfl, hFq, hq⟩ := hrel
      by_cases h1 : q < s.size
      · have j0 : (0 : Int) ≤ (q : Int) := by omega
        have j1 : (q : Int) < (s.size : Int) := by omega
        have hwq : IntKind.i64.wrap ((q : Int) + 1) = (q : Int) + 1 := by rw [IntKind.wrap_i64]; omega
        have hd := HALL.out q h1 hFq
        go_wp2_with fail
        refine (digit_any s[q] _).mono ?_
        rintro e w' ⟨rfl, rfl⟩
        rw [hd]
        go_wp2
        go_round
        case rel => exact ⟨q + 1, by go_num, by omega, by omega⟩
        case measure => simp only [intOf]; omega
      · have j1 : ¬ (q : Int) < (s.size : Int) := by omega
        go_wp2_with fail
        refine (whole_any s _ h0 hs HSP.out).mono ?_
        rintro e w' ⟨he, rfl⟩
        rw [HV.out] at he
        have he2 : e = .returned (.tuple #[.int .i64 v, .bool true]) := he
        subst he2
        clear he
        go_wp2
        go_ret
        exact ⟨rfl, up_alloc _ _⟩
theorem word_shape {s : ByteArray} (h : (L s).all isW = true) : ∀ j (hj : j < s.size), isW s[j] = true := fun j hj => by
  rw [← L_get hj]
  exact all_at h _

set_option maxRecDepth 100000 in
set_option maxHeartbeats 3200000 in
theorem spells_name (s : ByteArray) (off fin : Nat) (w : World) (h0 : 0 < s.size) (hs : s.size ≤ 64) (hw : (L s).all isW = true) (hn : (L s).map (·.toNat) ≠ [110, 111, 116]) (hc : isL s[0] = true) :
    Calls Tryd.prog 14 #[.string s, .agg #[.int .i64 1, .string s, .int .i64 0, .int .i64 0, .int .i64 (off : Int), .int .i64 (fin : Int)]] w fun e w' => e = .returned (.bool true) ∧ Below w.heap.size w w' := by
  have hsn : (s.toList == []) = false := by
    rw [beq_eq_false_iff_ne, ByteArray.toList_eq]
    intro h
    have h2 : L s = [] := h
    have := L_len s
    rw [h2] at this; simp at this; omega
  have hq : (s.toList == [110, 111, 116]) = false := by
    rw [beq_eq_false_iff_ne]
    intro h
    exact hn (by rw [L_eq_toList s h]; rfl)
  have h0I : (0 : Int) < (s.size : Int) := by omega
  have h64 : decide ((s.size : Int) ≤ 64) = true := decide_eq_true (by omega)
  have HALL := Lib.hid (word_shape hw)
  clear hw hn
  go_enter Tryd.func14, Tryd.ntmps14
  go_wp2
  go_loop [5] (fun k => ∃ q : Nat, k = .int .i64 (q : Int) ∧ q ≤ s.size) (fun k => s.size - (intOf k).toNat)
  case atStart => exact ⟨0, rfl, Nat.zero_le _⟩
  case round =>
    obtain ⟨q, rfl, hq⟩ := hrel
    by_cases h1 : q < s.size
    · have j0 : (0 : Int) ≤ (q : Int) := by omega
      have j1 : (q : Int) < (s.size : Int) := by omega
      have hwq : IntKind.i64.wrap ((q : Int) + 1) = (q : Int) + 1 := by rw [IntKind.wrap_i64]; omega
      have hd := HALL.out q h1
      go_wp2_with fail
      refine (wordByte_any s[q] _).mono ?_
      rintro e w' ⟨rfl, rfl⟩
      rw [hd]
      go_wp2
      go_round
      case rel => exact ⟨q + 1, by go_num, by omega⟩
      case measure => simp only [intOf]; omega
    · have j1 : ¬ (q : Int) < (s.size : Int) := by omega
      have hc5 : 97 ≤ s[0].toNat ∧ s[0].toNat ≤ 122 := by simpa [isL] using hc
      have e97 : decide ((s[0].toNat : Int) ≥ 97) = true := decide_eq_true (by omega)
      have e122 : decide ((s[0].toNat : Int) ≤ 122) = true := decide_eq_true (by omega)
      have HDG : Hid (isD s[0] = false) := Lib.hid (by simp [isD]; omega)
      clear hc hc5
      go_wp2_with fail
      refine (digit_any s[0] _).mono ?_
      rintro e w' ⟨rfl, rfl⟩
      rw [HDG.out]
      go_wp2
      go_ret
      exact ⟨rfl, up_alloc _ _⟩

set_option maxRecDepth 100000 in
set_option maxHeartbeats 3200000 in
theorem spells_var (s : ByteArray) (off fin : Nat) (w : World) (h0 : 0 < s.size) (hs : s.size ≤ 64) (hw : (L s).all isW = true) (hn : (L s).map (·.toNat) ≠ [110, 111, 116]) (hc : isL s[0] = false) (hc2 : isD s[0] = false) :
    Calls Tryd.prog 14 #[.string s, .agg #[.int .i64 2, .string s, .int .i64 0, .int .i64 0, .int .i64 (off : Int), .int .i64 (fin : Int)]] w fun e w' => e = .returned (.bool true) ∧ Below w.heap.size w w' := by
  have hsn : (s.toList == []) = false := by
    rw [beq_eq_false_iff_ne, ByteArray.toList_eq]
    intro h
    have h2 : L s = [] := h
    have := L_len s
    rw [h2] at this; simp at this; omega
  have hq : (s.toList == [110, 111, 116]) = false := by
    rw [beq_eq_false_iff_ne]
    intro h
    exact hn (by rw [L_eq_toList s h]; rfl)
  have h0I : (0 : Int) < (s.size : Int) := by omega
  have h64 : decide ((s.size : Int) ≤ 64) = true := decide_eq_true (by omega)
  have HALL := Lib.hid (word_shape hw)
  clear hw hn
  go_enter Tryd.func14, Tryd.ntmps14
  go_wp2
  go_loop [5] (fun k => ∃ q : Nat, k = .int .i64 (q : Int) ∧ q ≤ s.size) (fun k => s.size - (intOf k).toNat)
  case atStart => exact ⟨0, rfl, Nat.zero_le _⟩
  case round =>
    obtain ⟨q, rfl, hq⟩ := hrel
    by_cases h1 : q < s.size
    · have j0 : (0 : Int) ≤ (q : Int) := by omega
      have j1 : (q : Int) < (s.size : Int) := by omega
      have hwq : IntKind.i64.wrap ((q : Int) + 1) = (q : Int) + 1 := by rw [IntKind.wrap_i64]; omega
      have hd := HALL.out q h1
      go_wp2_with fail
      refine (wordByte_any s[q] _).mono ?_
      rintro e w' ⟨rfl, rfl⟩
      rw [hd]
      go_wp2
      go_round
      case rel => exact ⟨q + 1, by go_num, by omega⟩
      case measure => simp only [intOf]; omega
    · have j1 : ¬ (q : Int) < (s.size : Int) := by omega
      have hc5 : ¬ (97 ≤ s[0].toNat ∧ s[0].toNat ≤ 122) := by simpa [isL] using hc
      have HDG := Lib.hid hc2
      by_cases e9 : 97 ≤ s[0].toNat
      · have e97 : decide ((s[0].toNat : Int) ≥ 97) = true := decide_eq_true (by omega)
        have e122 : decide ((s[0].toNat : Int) ≤ 122) = false := decide_eq_false (by omega)
        clear hc hc5 e9 hc2
        go_wp2_with fail
        refine (digit_any s[0] _).mono ?_
        rintro e w' ⟨rfl, rfl⟩
        rw [HDG.out]
        go_wp2
        go_ret
        exact ⟨rfl, up_alloc _ _⟩
      · have e97 : decide ((s[0].toNat : Int) ≥ 97) = false := decide_eq_false (by omega)
        clear hc hc5 e9 hc2
        go_wp2_with fail
        refine (digit_any s[0] _).mono ?_
        rintro e w' ⟨rfl, rfl⟩
        rw [HDG.out]
        go_wp2
        go_ret
        exact ⟨rfl, up_alloc _ _⟩
end Go.Proofs.YthidnjnaifcfoaaDoor
