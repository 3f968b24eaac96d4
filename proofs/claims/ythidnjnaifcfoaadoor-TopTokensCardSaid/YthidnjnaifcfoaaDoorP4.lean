/-
  The library's reading of an integer is the plain one. No condition beyond those that each lemma states.
-/
import Derived.Test.YthidnjnaifcfoaaDoorP3
import Derived.Lib.ParseIntB
namespace Go.Proofs.YthidnjnaifcfoaaDoor
namespace Pl

theorem digV_ge : ∀ (f : List UInt8) (acc : Nat), acc ≤ digV acc f
  | [], _ => Nat.le_refl _
  | c :: r, acc => by
    have := digV_ge r (acc * 10 + (c.toNat - 48))
    show acc ≤ digV (acc * 10 + (c.toNat - 48)) r
    omega
theorem uint_dig : ∀ (f : List UInt8) (acc : Nat), acc ≤ 18446744073709551615 → f.all isD = true → Lib.parseUintM 18446744073709551615 acc f = if digV acc f ≤ 18446744073709551615 then .ok (digV acc f) else .range
  | [], acc, h, _ => by
    rw [Lib.parseUintM]
    show _ = if acc ≤ _ then _ else _
    rw [if_pos h]; rfl
  | c :: r, acc, h, hd => by
    rw [List.all_cons, Bool.and_eq_true] at hd
    have hc : 48 ≤ c.toNat ∧ c.toNat ≤ 57 := by
      have := hd.1
      simp only [isD, Bool.and_eq_true, decide_eq_true_eq] at this
      exact this
    rw [Lib.parseUintM, if_pos hc]
    have e : digV acc (c :: r) = digV (acc * 10 + (c.toNat - 48)) r := rfl
    rw [e]
    have hge := digV_ge r (acc * 10 + (c.toNat - 48))
    by_cases h1 : 1844674407370955162 ≤ acc
    · rw [if_pos h1, if_neg (by omega)]
    rw [if_neg h1]
    by_cases h2 : 18446744073709551615 < acc * 10 + (c.toNat - 48)
    · rw [if_pos h2, if_neg (by omega)]
    rw [if_neg h2]
    exact uint_dig r _ (by omega) hd.2
/-- A spelling of an integer: digits, a minus ahead of them perhaps. -/
def IntSp (w : List UInt8) : Prop := ∃ f, (w = f ∨ ∃ c, w = c :: f ∧ c.toNat = 45) ∧ f ≠ [] ∧ f.all isD = true
theorem int_parse {w : List UInt8} (h : IntSp w) : Lib.parseIntB 64 w = match intV w with | some v => .ok v | none => .range := by
  obtain ⟨f, h1, h2, h3⟩ := h
  have hu := uint_dig f 0 (by omega) h3
  have hub : Lib.parseUintB 64 f = if digV 0 f ≤ 18446744073709551615 then .ok (digV 0 f) else .range := by
    unfold Lib.parseUintB
    rw [if_neg h2]
    exact hu
  rcases h1 with rfl | ⟨c, rfl, hc⟩
  · cases w with
    | nil => exact absurd rfl h2
    | cons d r =>
      have hd : 48 ≤ d.toNat ∧ d.toNat ≤ 57 := by
        rw [List.all_cons, Bool.and_eq_true] at h3
        have := h3.1
        simp only [isD, Bool.and_eq_true, decide_eq_true_eq] at this
        exact this
      unfold Lib.parseIntB intV
      simp only
      rw [if_neg (show ¬ (d.toNat = 43 ∨ d.toNat = 45) by omega), hub, if_neg (show ¬ d.toNat = 45 by omega)]
      by_cases h5 : digV 0 (d :: r) ≤ 18446744073709551615
      · rw [if_pos h5]
        simp only
        by_cases h6 : digV 0 (d :: r) < 9223372036854775808
        · rw [if_pos h6, if_neg (by omega), if_neg (by omega), if_neg (by omega)]
        · rw [if_neg h6, if_pos ⟨by omega, by omega⟩]
      · rw [if_neg h5, if_neg (by omega)]
  · unfold Lib.parseIntB intV
    simp only
    rw [if_pos (show c.toNat = 43 ∨ c.toNat = 45 by omega), hub, if_pos hc]
    by_cases h5 : digV 0 f ≤ 18446744073709551615
    · rw [if_pos h5]
      simp only
      by_cases h6 : digV 0 f ≤ 9223372036854775808
      · rw [if_pos h6, if_neg (by omega), if_neg (by omega), if_pos hc]
      · rw [if_neg h6, if_neg (by omega), if_pos ⟨hc, by omega⟩]
    · rw [if_neg h5, if_neg (by omega)]

end Pl
end Go.Proofs.YthidnjnaifcfoaaDoor
