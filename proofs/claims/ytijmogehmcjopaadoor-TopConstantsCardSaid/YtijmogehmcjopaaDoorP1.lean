/-
  A decimal numeral reads back; constants, their texts, their orders, in plain Lean. No program in sight.
-/
import Derived.Lib.ItoaLen
import Derived.Lib.ItoaMem
import Derived.Lib.ParseIntBCases
namespace Go.Proofs.YtijmogehmcjopaaDoor
namespace Ct
open Go.Lib
theorem read_dec (M : Nat) (hM : M < 18446744073709551616) : ∀ (u : Nat), u ≤ M → ∀ r, parseUintM M 0 (decDigits u ++ r) = parseUintM M u r := by
  intro u
  induction u using Nat.strongRecOn with
  | ind u ih =>
    intro hu r
    rw [decDigits]
    have hd : (UInt8.ofNat (48 + u % 10)).toNat = 48 + u % 10 := by simp [UInt8.toNat_ofNat']; omega
    by_cases h : u < 10
    · rw [dif_pos h]
      have hd' : (UInt8.ofNat (48 + u)).toNat = 48 + u := by simp [UInt8.toNat_ofNat']; omega
      simp only [List.cons_append, List.nil_append, parseUintM, hd']
      rw [if_pos (by omega), if_neg (by omega), if_neg (by omega)]
      congr 1; omega
    · rw [dif_neg h, List.append_assoc, ih (u / 10) (by omega) (by omega)]
      simp only [List.cons_append, List.nil_append, parseUintM, hd]
      rw [if_pos (by omega), if_neg (by omega), if_neg (by omega)]
      congr 1; omega
theorem dec_ne (u : Nat) : ∃ d r, decDigits u = UInt8.ofNat (48 + d) :: r ∧ d < 10 := by
  induction u using Nat.strongRecOn with
  | ind u ih =>
    rw [decDigits]
    by_cases h : u < 10
    · rw [dif_pos h]; exact ⟨u, [], rfl, h⟩
    · rw [dif_neg h]
      obtain ⟨d, r, e, hd⟩ := ih (u / 10) (by omega)
      exact ⟨d, _, by rw [e]; rfl, hd⟩
theorem read_uint (u : Nat) (hu : u < 18446744073709551616) : parseUintB 64 (decDigits u) = .ok u := by
  obtain ⟨d, r, e, _⟩ := dec_ne u
  unfold parseUintB
  rw [if_neg (by rw [e]; simp)]
  have h := read_dec (2 ^ 64 - 1) (by omega) u (by omega) []
  rw [List.append_nil] at h
  rw [h]; rfl
/-- strconv.ParseInt(strconv.FormatInt(n, 10), 10, 64) is n. -/
theorem read_itoa (n : Int) (h0 : -9223372036854775808 ≤ n) (h1 : n ≤ 9223372036854775807) : parseIntB 64 (itoa n) = .ok n := by
  rcases Int.lt_or_le n 0 with h | h
  · obtain ⟨u, rfl⟩ : ∃ u : Nat, n = -(u : Int) := ⟨n.natAbs, by omega⟩
    rw [itoa_neg u (by omega), parseIntB_minus, read_uint u (by omega)]
    simp only [signedC]
    rw [if_neg (by omega)]
  · obtain ⟨u, rfl⟩ : ∃ u : Nat, n = (u : Int) := ⟨n.toNat, by omega⟩
    rw [itoa_nonneg]
    obtain ⟨d, r, e, hd⟩ := dec_ne u
    have hd' : (UInt8.ofNat (48 + d)).toNat = 48 + d := by simp [UInt8.toNat_ofNat']; omega
    rw [e, parseIntB_plain _ _ _ (by omega) (by omega), ← e, read_uint u (by omega)]
    simp only [signlessC]
    rw [if_neg (by omega)]
theorem itoa_head (n : Int) : ∃ b r, itoa n = b :: r ∧ (b.toNat = 45 ∨ 48 ≤ b.toNat ∧ b.toNat ≤ 57) := by
  unfold itoa
  split
  · exact ⟨45, _, rfl, .inl rfl⟩
  · obtain ⟨d, r, e, hd⟩ := dec_ne n.toNat
    have hd' : (UInt8.ofNat (48 + d)).toNat = 48 + d := by simp [UInt8.toNat_ofNat']; omega
    exact ⟨_, r, e, .inr (by omega)⟩

/-- A constant as a datum: any kind, any number, any text. -/
structure Cn where
  kind : Int
  int : Int
  text : List UInt8
instance cnSame : DecidableEq Cn := fun a b =>
  if h : a.kind = b.kind ∧ a.int = b.int ∧ a.text = b.text then isTrue (by obtain ⟨h1, h2, h3⟩ := h; cases a; cases b; simp only at h1 h2 h3; subst h1 h2 h3; rfl)
  else isFalse fun e => h (by subst e; exact ⟨rfl, rfl, rfl⟩)
def lowB (b : UInt8) : Bool := decide (97 ≤ b.toNat ∧ b.toNat ≤ 122)
def bigB (b : UInt8) : Bool := decide (65 ≤ b.toNat ∧ b.toNat ≤ 90 ∨ b.toNat = 95)
def digB (b : UInt8) : Bool := decide (48 ≤ b.toNat ∧ b.toNat ≤ 57)
def wdB (b : UInt8) : Bool := lowB b || bigB b || digB b
def notT : List UInt8 := [110, 111, 116]
/-- word(s, first). -/
def wordP (first : UInt8 → Bool) (s : List UInt8) : Bool :=
  match s with
  | [] => false
  | b :: r => decide (s.length ≤ 64) && first b && r.all wdB
def nameP (s : List UInt8) : Bool := decide (s ≠ notT) && wordP lowB s
def valid (c : Cn) : Bool :=
  if c.kind = 1 then decide (c.text = []) else if c.kind = 2 then decide (c.int = 0) && nameP c.text else if c.kind = 3 then decide (c.int = 0) && decide (c.text.length ≤ 255) else false
def hexD (n : Nat) : UInt8 := UInt8.ofNat (if n < 10 then 48 + n else 87 + n)
/-- One byte's text. -/
def esc (b : UInt8) : List UInt8 :=
  if b.toNat = 34 ∨ b.toNat = 92 then [92, b] else if b.toNat = 10 then [92, 110] else if b.toNat = 9 then [92, 116] else if b.toNat = 13 then [92, 114]
  else if 32 ≤ b.toNat ∧ b.toNat ≤ 126 then [b] else [92, 120, hexD (b.toNat / 16), hexD (b.toNat % 16)]
def inner (t : List UInt8) : List UInt8 := t.flatMap esc
def quoted (t : List UInt8) : List UInt8 := 34 :: (inner t ++ [34])
def textC (c : Cn) : List UInt8 := if valid c then (if c.kind = 1 then itoa c.int else if c.kind = 2 then c.text else quoted c.text) else []
/-- What stands behind the backslash; 0: none. -/
def letterN (b : UInt8) : Nat := if b.toNat = 34 ∨ b.toNat = 92 then b.toNat else if b.toNat = 10 then 110 else if b.toNat = 9 then 116 else if b.toNat = 13 then 114 else 0
def cmpI (a b : Int) : Int := if a < b then -1 else if b < a then 1 else 0
def cmpS (a b : List UInt8) : Int := if a < b then -1 else if b < a then 1 else 0
def cmpC (a b : Cn) : Int := if cmpI a.kind b.kind ≠ 0 then cmpI a.kind b.kind else if cmpI a.int b.int ≠ 0 then cmpI a.int b.int else cmpS a.text b.text
/-- The law's order. -/
def befC (a b : Cn) : Int :=
  if a = b then 0 else if a.kind ≠ b.kind then (if a.kind < b.kind then -1 else 1) else if a.kind = 1 then (if a.int < b.int then -1 else 1) else if a.text < b.text then -1 else 1
theorem lt_irr (a : List UInt8) : ¬ a < a := List.lt_irrefl a
theorem lt_tri (a b : List UInt8) : a < b ∨ a = b ∨ b < a := by
  rcases Classical.em (a < b) with h | h
  · exact .inl h
  · rcases Classical.em (b < a) with h' | h'
    · exact .inr (.inr h')
    · exact .inr (.inl (List.le_antisymm (List.not_lt.1 h') (List.not_lt.1 h)))
theorem cmpC_eq {a b : Cn} (ha : valid a = true) (hb : valid b = true) : cmpC a b = befC a b := by
  by_cases e : a = b
  · subst e
    rw [befC, if_pos rfl]
    have h1 : ∀ x, cmpI x x = 0 := fun x => by unfold cmpI; rw [if_neg (by omega), if_neg (by omega)]
    unfold cmpC
    rw [h1, h1, if_neg (by simp), if_neg (by simp), cmpS, if_neg (lt_irr _), if_neg (lt_irr _)]
  · rw [befC, if_neg e]
    by_cases hk : a.kind = b.kind
    · rw [if_neg (by simp [hk])]
      have k0 : cmpI a.kind b.kind = 0 := by rw [hk]; unfold cmpI; rw [if_neg (by omega), if_neg (by omega)]
      unfold cmpC
      rw [k0, if_neg (by simp)]
      by_cases h1 : a.kind = 1
      · have ta : a.text = [] := by unfold valid at ha; rw [if_pos h1] at ha; simpa using ha
        have tb : b.text = [] := by unfold valid at hb; rw [if_pos (by omega)] at hb; simpa using hb
        have hi : a.int ≠ b.int := fun hi => e (by cases a; cases b; simp only at hk hi ta tb; subst hk hi ta tb; rfl)
        rw [if_pos h1]
        unfold cmpI
        by_cases hl : a.int < b.int
        · simp [hl]
        · have : b.int < a.int := by omega
          simp [hl, this]
      · rw [if_neg h1]
        have ia : a.int = 0 := by
          unfold valid at ha; rw [if_neg h1] at ha
          split at ha
          · simp at ha; exact ha.1
          · split at ha
            · simp at ha; exact ha.1
            · cases ha
        have ib : b.int = 0 := by
          unfold valid at hb; rw [if_neg (by omega)] at hb
          split at hb
          · simp at hb; exact hb.1
          · split at hb
            · simp at hb; exact hb.1
            · cases hb
        have ht : a.text ≠ b.text := fun ht => e (by cases a; cases b; simp only at hk ht ia ib; subst hk ht ia ib; rfl)
        have i0 : cmpI a.int b.int = 0 := by rw [ia, ib]; rfl
        rw [i0, if_neg (by simp)]
        unfold cmpS
        by_cases hl : a.text < b.text
        · rw [if_pos hl, if_pos hl]
        · rw [if_neg hl, if_neg hl, if_pos (by rcases lt_tri a.text b.text with h | h | h; exact absurd h hl; exact absurd h ht; exact h)]
    · rw [if_pos hk]
      unfold cmpC cmpI
      by_cases hl : a.kind < b.kind
      · simp [hl]
      · have : b.kind < a.kind := by omega
        simp [hl, this]
end Ct
end Go.Proofs.YtijmogehmcjopaaDoor
