/-
  What a token's spelling is: in plain Lean. No program in sight.
-/
import Derived.Test.YthidnjnaifcfoaaDoorP1
namespace Go.Proofs.YthidnjnaifcfoaaDoor
namespace Pl

/-- What comes next is not of this kind. -/
def hdNot (p : UInt8 → Bool) : List UInt8 → Prop
  | [] => True
  | c :: _ => p c = false
theorem while_split (p : UInt8 → Bool) : ∀ r : List UInt8, r = r.takeWhile p ++ r.dropWhile p := fun r => List.takeWhile_append_dropWhile.symm
theorem while_all (p : UInt8 → Bool) : ∀ r : List UInt8, (r.takeWhile p).all p = true
  | [] => rfl
  | c :: r => by
    rw [List.takeWhile_cons]
    split
    · rename_i h; rw [List.all_cons, h, while_all p r]; rfl
    · rfl
theorem while_hd (p : UInt8 → Bool) : ∀ r : List UInt8, hdNot p (r.dropWhile p)
  | [] => trivial
  | c :: r => by
    rw [List.dropWhile_cons]
    split
    · exact while_hd p r
    · rename_i h; show p c = false; simpa using h
theorem while_self {p : UInt8 → Bool} {w : List UInt8} (h : w.all p = true) : w.takeWhile p = w ∧ w.dropWhile p = [] := by
  induction w with
  | nil => exact ⟨rfl, rfl⟩
  | cons c r ih =>
    rw [List.all_cons, Bool.and_eq_true] at h
    obtain ⟨h1, h2⟩ := ih h.2
    rw [List.takeWhile_cons, List.dropWhile_cons, if_pos h.1, if_pos h.1, h1, h2]
    exact ⟨rfl, rfl⟩

theorem esc_self {r u rest : List UInt8} {c : UInt8} {n : Nat} (h : esc r = some (c, n)) (hr : r = u ++ rest) (hn : n ≤ u.length) : esc u = some (c, n) := by
  have h2 := (esc_len h).1
  match u, hn, hr with
  | [], hn, _ => simp at hn; omega
  | [_], hn, _ => simp at hn; omega
  | [a, b], hn, hr =>
    subst hr
    have e : n = 2 := by simp at hn; omega
    subst e
    revert h
    unfold esc
    simp only [List.cons_append, List.nil_append]
    repeat' split
    all_goals simp
  | [a, b, d], hn, hr =>
    subst hr
    have h4 : n = 2 := by
      revert h
      unfold esc
      simp only [List.cons_append, List.nil_append]
      repeat' split
      all_goals simp
      all_goals (try (rintro _ _ rfl)) <;> simp at hn <;> omega
    subst h4
    revert h
    unfold esc
    simp only [List.cons_append, List.nil_append]
    repeat' split
    all_goals simp
  | a :: b :: d :: e :: u, hn, hr =>
    subst hr
    revert h
    unfold esc
    simp only [List.cons_append]
    exact id

theorem txt_nil (acc : List UInt8) : txt acc [] = .quote := by rw [txt]
/-- A text's reading does not look behind its closing quote; the text is short. -/
theorem txt_split : ∀ (k : Nat) (acc r t rest : List UInt8), r.length ≤ k → txt acc r = .ok t rest → acc.length ≤ 255 → ∃ u, r = u ++ rest ∧ txt acc u = .ok t [] ∧ t.length ≤ 255
  | _, acc, [], t, rest, _, h, _ => by rw [txt] at h; cases h
  | 0, acc, a :: _, t, rest, hk, _, _ => by simp at hk
  | k + 1, acc, a :: r, t, rest, hk, h, ha => by
    rw [txt] at h
    by_cases h1 : a.toNat < 32
    · rw [if_pos h1] at h; cases h
    rw [if_neg h1] at h
    by_cases h2 : a.toNat = 34
    · rw [if_pos h2] at h
      cases h
      exact ⟨[a], rfl, by rw [txt, if_neg h1, if_pos h2], ha⟩
    rw [if_neg h2] at h
    by_cases h3 : a.toNat = 92
    · rw [if_pos h3] at h
      split at h
      · cases h
      · rename_i c n he
        by_cases h4 : acc.length = 255
        · rw [if_pos h4] at h; cases h
        rw [if_neg h4] at h
        have hl := esc_len he
        obtain ⟨u, hu1, hu2, hu3⟩ := txt_split k (acc ++ [c]) ((a :: r).drop n) t rest (by rw [List.length_drop]; simp at hk ⊢; omega) h (by simp; omega)
        have hr : a :: r = ((a :: r).take n ++ u) ++ rest := by rw [List.append_assoc, ← hu1, List.take_append_drop]
        have hln : ((a :: r).take n).length = n := by rw [List.length_take]; omega
        have he2 := esc_self he hr (by rw [List.length_append]; omega)
        refine ⟨(a :: r).take n ++ u, hr, ?_, hu3⟩
        obtain ⟨m, rfl⟩ : ∃ m, n = m + 1 := ⟨n - 1, by omega⟩
        have hc : (a :: r).take (m + 1) ++ u = a :: (r.take m ++ u) := rfl
        rw [hc] at he2 ⊢
        rw [txt, if_neg h1, if_neg h2, if_pos h3]
        split
        · rename_i h5; rw [he2] at h5; cases h5
        · rename_i c' n' h5
          rw [he2] at h5
          cases h5
          rw [if_neg h4]
          have hd : (a :: (r.take m ++ u)).drop (m + 1) = u := by
            rw [List.drop_succ_cons, List.drop_append_of_le_length (by rw [List.length_take]; simp at hl; omega)]
            rw [List.drop_eq_nil_of_le (by rw [List.length_take]; omega), List.nil_append]
          rw [hd]
          exact hu2
    · rw [if_neg h3] at h
      by_cases h4 : acc.length = 255
      · rw [if_pos h4] at h; cases h
      rw [if_neg h4] at h
      obtain ⟨u, hu1, hu2, hu3⟩ := txt_split k (acc ++ [a]) r t rest (by simp at hk; omega) h (by simp; omega)
      exact ⟨a :: u, by rw [hu1]; rfl, by rw [txt, if_neg h1, if_neg h2, if_neg h3, if_neg h4]; exact hu2, hu3⟩

end Pl
end Go.Proofs.YthidnjnaifcfoaaDoor
