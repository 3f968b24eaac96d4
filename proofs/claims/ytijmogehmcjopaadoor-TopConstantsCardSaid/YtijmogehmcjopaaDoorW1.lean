/-
  The walks of package sym's words: small, big, word at small, IsName. Conditions: a string's reach.
-/
import Derived.Test.YtijmogehmcjopaaDoorChecked
import Derived.Test.YtijmogehmcjopaaDoorP1
import Derived.WalkKit
import Derived.WalkLawsBesides
import Derived.Lib.Hide
import Derived.Lib.SmallJoins
import Derived.Lib.Strings
import Derived.Laws.ResultCell
import Derived.Deep.Onto
import Derived.Deep.QuietTactic
import Derived.BigQuiet
import Derived.BigRegion
import Derived.Deep.RegionLaw
import Derived.Deep.CutRange
namespace Go.Proofs.YtijmogehmcjopaaDoor
open Go.RowKit Ct

def L (s : ByteArray) : List UInt8 := s.data.toList
theorem L_len (s : ByteArray) : (L s).length = s.size := Array.length_toList
theorem L_get {s : ByteArray} {i : Nat} (h : i < s.size) : (L s)[i]'(by rw [L_len]; exact h) = s[i]'h := by
  simp only [L, Array.getElem_toList]; rfl
theorem L_extract (s : ByteArray) (a b : Nat) : L (s.extract a b) = ((L s).drop a).take (b - a) := by
  unfold L
  rw [Lib.extract_data]
theorem L_inj {s t : ByteArray} : L s = L t ↔ s = t := by
  constructor
  · intro h
    obtain ⟨⟨a⟩⟩ := s
    obtain ⟨⟨b⟩⟩ := t
    simp only [L] at h
    rw [h]
  · intro h; rw [h]
theorem ret_bool {b c : Bool} (h : b = c) : Ending.returned (.bool b) = .returned (.bool c) := by rw [h]
theorem up_alloc (w : World) (o : Obj) : Below w.heap.size w (w.alloc o) := (Below.refl _ _).alloc (Nat.le_refl _) o

theorem small_any (c : UInt8) (w : World) : Calls Tryd.prog 42 #[.int .u8 (c.toNat : Int)] w fun e w' => e = .returned (.bool (lowB c)) ∧ w' = w := by
  go_enter Tryd.func42, Tryd.ntmps42
  go_wp2
  all_goals go_ret
  all_goals refine ⟨ret_bool ?_, rfl⟩
  all_goals (rw [Bool.eq_iff_iff]; simp [lowB]; try omega)
theorem big_any (c : UInt8) (w : World) : Calls Tryd.prog 57 #[.int .u8 (c.toNat : Int)] w fun e w' => e = .returned (.bool (bigB c)) ∧ w' = w := by
  go_enter Tryd.func57, Tryd.ntmps57
  go_wp2
  all_goals go_ret
  all_goals refine ⟨ret_bool ?_, rfl⟩
  all_goals (rw [Bool.eq_iff_iff]; simp [bigB]; try omega)
theorem wordByte_any (c : UInt8) (w : World) : Calls Tryd.prog 22 #[.int .u8 (c.toNat : Int)] w fun e w' => e = .returned (.bool (wdB c)) ∧ w' = w := by
  go_enter Tryd.func22, Tryd.ntmps22
  go_wp2
  all_goals go_ret
  all_goals refine ⟨ret_bool ?_, rfl⟩
  all_goals (rw [Bool.eq_iff_iff]; simp [wdB, lowB, bigB, digB]; try omega)
theorem letter_any (c : UInt8) (w : World) : Calls Tryd.prog 37 #[.int .u8 (c.toNat : Int)] w fun e w' => e = .returned (.int .u8 ((letterN c : Nat) : Int)) ∧ w' = w := by
  by_cases h1 : c.toNat = 34
  · have e1 : ((c.toNat : Int) == 34) = true := by simp; omega
    go_enter Tryd.func37, Tryd.ntmps37
    go_wp2
    all_goals go_ret
    all_goals exact ⟨by rw [letterN, if_pos (.inl h1)]; rfl, rfl⟩
  by_cases h2 : c.toNat = 92
  · have e1 : ((c.toNat : Int) == 34) = false := by simp; omega
    have e2 : ((c.toNat : Int) == 92) = true := by simp; omega
    go_enter Tryd.func37, Tryd.ntmps37
    go_wp2
    all_goals go_ret
    all_goals exact ⟨by rw [letterN, if_pos (.inr h2)]; rfl, rfl⟩
  have e1 : ((c.toNat : Int) == 34) = false := by simp; omega
  have e2 : ((c.toNat : Int) == 92) = false := by simp; omega
  have hn : ¬ (c.toNat = 34 ∨ c.toNat = 92) := by omega
  unfold letterN
  rw [if_neg hn]
  clear hn
  by_cases h3 : c.toNat = 10
  · have e3 : ((c.toNat : Int) == 10) = true := by simp; omega
    rw [if_pos h3]
    go_enter Tryd.func37, Tryd.ntmps37
    go_wp2
    all_goals go_ret
    all_goals exact ⟨rfl, rfl⟩
  have e3 : ((c.toNat : Int) == 10) = false := by simp; omega
  rw [if_neg h3]
  by_cases h4 : c.toNat = 9
  · have e4 : ((c.toNat : Int) == 9) = true := by simp; omega
    rw [if_pos h4]
    go_enter Tryd.func37, Tryd.ntmps37
    go_wp2
    all_goals go_ret
    all_goals exact ⟨rfl, rfl⟩
  have e4 : ((c.toNat : Int) == 9) = false := by simp; omega
  rw [if_neg h4]
  by_cases h5 : c.toNat = 13
  · have e5 : ((c.toNat : Int) == 13) = true := by simp; omega
    rw [if_pos h5]
    go_enter Tryd.func37, Tryd.ntmps37
    go_wp2
    all_goals go_ret
    all_goals exact ⟨rfl, rfl⟩
  have e5 : ((c.toNat : Int) == 13) = false := by simp; omega
  rw [if_neg h5]
  go_enter Tryd.func37, Tryd.ntmps37
  go_wp2
  all_goals go_ret
  all_goals exact ⟨rfl, rfl⟩
end Go.Proofs.YtijmogehmcjopaaDoor
