/-
  Digits one by one; a list and its places: in plain Lean. No program in sight.
-/
import Derived.Test.YthidnjnaifcfoaaDoorP6
namespace Go.Proofs.YthidnjnaifcfoaaDoor
namespace Pl

theorem digV_append : ∀ (a b : List UInt8) (acc : Nat), digV acc (a ++ b) = digV (digV acc a) b
  | [], _, _ => rfl
  | c :: a, b, acc => digV_append a b (acc * 10 + (c.toNat - 48))
theorem digV_next {f : List UInt8} {i : Nat} (h : i < f.length) : digV 0 (f.take (i + 1)) = digV 0 (f.take i) * 10 + (f[i].toNat - 48) := by
  rw [List.take_add_one, List.getElem?_eq_getElem h, digV_append]
  rfl
theorem digV_part (f : List UInt8) (i : Nat) : digV 0 (f.take i) ≤ digV 0 f := by
  conv => rhs; rw [← List.take_append_drop i f, digV_append]
  exact digV_ge _ _
theorem all_at {p : UInt8 → Bool} {f : List UInt8} (h : f.all p = true) {i : Nat} (hi : i < f.length) : p f[i] = true := List.all_eq_true.1 h _ (List.getElem_mem hi)
theorem drop_at {l : List UInt8} {i : Nat} (h : i < l.length) : l.drop i = l[i] :: l.drop (i + 1) := List.drop_eq_getElem_cons h
theorem hdP_at {p : UInt8 → Bool} {l : List UInt8} {i : Nat} (h : i < l.length) : hdP p (l.drop i) = p l[i] := by rw [drop_at h]; rfl
theorem hdP_end {p : UInt8 → Bool} {l : List UInt8} {i : Nat} (h : l.length ≤ i) : hdP p (l.drop i) = false := by rw [List.drop_eq_nil_of_le h]; rfl
/-- Where a run of bytes of a kind ends. -/
theorem run_step {p : UInt8 → Bool} {l : List UInt8} {i : Nat} (h : i < l.length) (hp : p l[i] = true) : (l.drop i).dropWhile p = (l.drop (i + 1)).dropWhile p := by
  rw [drop_at h, List.dropWhile_cons, if_pos hp]
theorem run_stop {p : UInt8 → Bool} {l : List UInt8} {i : Nat} (h : i < l.length) (hp : p l[i] = false) : (l.drop i).dropWhile p = l.drop i := by
  rw [drop_at h, List.dropWhile_cons, if_neg (by simp [hp])]
theorem run_end {p : UInt8 → Bool} {l : List UInt8} {i : Nat} (h : l.length ≤ i) : (l.drop i).dropWhile p = [] := by rw [List.drop_eq_nil_of_le h]; rfl
/-- A run's bytes, by place. -/
theorem run_take {p : UInt8 → Bool} (l : List UInt8) (i : Nat) : (l.drop i).takeWhile p = (l.drop i).take (l.length - i - ((l.drop i).dropWhile p).length) := by
  have h := congrArg List.length (while_split p (l.drop i))
  rw [List.length_append, List.length_drop] at h
  have e : l.length - i - ((l.drop i).dropWhile p).length = ((l.drop i).takeWhile p).length := by omega
  rw [e, take_while]

/-- What a token's spelling looks like, for the eyes that look at it byte by byte. -/
theorem intSp_of {w f : List UInt8} (h1 : w = f ∨ ∃ c, w = c :: f ∧ c.toNat = 45) (h2 : f ≠ []) (h3 : f.all isD = true) : IntSp w := ⟨f, h1, h2, h3⟩

end Pl
end Go.Proofs.YthidnjnaifcfoaaDoor
