/-
  The walk of edictlaw09.mod, and the plain laws of sums of powers of a list cut in two. Conditions: int bounds.
-/
import Derived.Test.YtfhmcgpohpkjgaaW8
namespace Go.Proofs.Ytfhmcgpohpkjgaa
open Go.RowKit Plain

theorem ret_i64 {a b : Int} (h : a = b) : Ending.returned (.int .i64 a) = .returned (.int .i64 b) := by rw [h]

def ModIs (k : Int) (w : World) (e : Ending) (w' : World) : Prop := ∃ m : Nat, e = .returned (.int .i64 (m : Int)) ∧ (m : Int) < k ∧ w = w'

theorem mod_any (n k : Int) (hk : 1 ≤ k ∧ k ≤ 4611686018427387904) (w : World) :
    Calls Try.prog 31 #[.int .i64 n, .int .i64 k] w (ModIs k w) := by
  obtain ⟨h1, h2⟩ := hk
  have r1 : -k < n.tmod k := by
    have := Int.lt_tmod_of_pos n (show 0 < k by omega); omega
  have r2 : n.tmod k < k := Int.tmod_lt_of_pos n (by omega)
  obtain ⟨m, hm⟩ : ∃ m : Nat, (n.tmod k + k) % k = (m : Int) := ⟨((n.tmod k + k) % k).toNat, by have := Int.emod_nonneg (n.tmod k + k) (show k ≠ 0 by omega); omega⟩
  have hmk : (m : Int) < k := by rw [← hm]; exact Int.emod_lt_of_pos _ (by omega)
  go_enter Try.func31, Try.ntmps31
  go_wp2
  go_ret
  exact ⟨m, ret_i64 hm, hmk, rfl⟩

theorem sum_map_split {α : Type} (f : α → Nat) (l : List α) (i : Nat) : (l.map f).sum = ((l.take i).map f).sum + ((l.drop i).map f).sum := by
  rw [← List.sum_append, ← List.map_append, List.take_append_drop]
theorem fsum_split (D : Nat) (ms : List Nat) (i : Nat) : sat (sat (fsum D (ms.take i)) + sat (fsum D (ms.drop i))) = sat (fsum D ms) := by
  rw [sat_add]; unfold fsum; rw [← sum_map_split]
theorem tsum_split (D : Nat) (ns : List (Int × Int)) (i : Nat) : sat (sat (tsum D (ns.take i)) + sat (tsum D (ns.drop i))) = sat (tsum D ns) := by
  rw [sat_add]; unfold tsum; rw [← sum_map_split]
theorem sum_map_mono {α : Type} (f g : α → Nat) (l : List α) (h : ∀ x, f x ≤ g x) : (l.map f).sum ≤ (l.map g).sum := by
  induction l with
  | nil => simp
  | cons a l ih => simp only [List.map_cons, List.sum_cons]; have := h a; omega
theorem fsum_mono {D D' : Nat} (ms : List Nat) (h : D ≤ D') : sat (fsum D ms) ≤ sat (fsum D' ms) :=
  sat_mono (sum_map_mono _ _ ms fun m => sat_mono (Nat.pow_le_pow_left h m))
theorem tsum_mono {D D' : Nat} (ns : List (Int × Int)) (h : D ≤ D') : sat (tsum D ns) ≤ sat (tsum D' ns) :=
  sat_mono (sum_map_mono _ _ ns fun x => by
    unfold tval
    split
    · exact Nat.le_refl _
    · exact sat_mono (Nat.pow_le_pow_left h _))

end Go.Proofs.Ytfhmcgpohpkjgaa
