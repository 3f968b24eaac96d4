/-
  One step of a gap, of a text: in plain Lean. No program in sight.
-/
import Derived.Test.YthidnjnaifcfoaaDoorP4
namespace Go.Proofs.YthidnjnaifcfoaaDoor
namespace Pl

theorem gap_blank {a : UInt8} {r : List UInt8} (h : isB a = true) : gap .out (a :: r) = gap .out r := by
  cases r with
  | nil => conv => lhs; rw [gap, if_pos h]
  | cons b r => rw [gap, if_pos h]
theorem gap_mark {a : UInt8} {r : List UInt8} (h : a.toNat = 37) : gap .out (a :: r) = gap .line r := by
  have h1 : ¬ isB a = true := by simp [isB, h]
  cases r with
  | nil => rw [gap, if_neg h1, if_pos h]
  | cons b r => rw [gap, if_neg h1, if_pos h]
theorem gap_open {a b : UInt8} {r : List UInt8} (h : a.toNat = 47) (h2 : b.toNat = 42) : gap .out (a :: b :: r) = gap (.block 1 (a :: b :: r)) r := by
  rw [gap, if_neg (by simp [isB, h]), if_neg (by omega), if_pos ⟨h, h2⟩]
theorem gap_stop {a : UInt8} {r : List UInt8} (h1 : isB a = false) (h2 : a.toNat ≠ 37) (h3 : ¬ (a.toNat = 47 ∧ hdP (fun c => decide (c.toNat = 42)) r = true)) : gap .out (a :: r) = .inl (a :: r) := by
  cases r with
  | nil => rw [gap, if_neg (by simp [h1]), if_neg h2]
  | cons b r => rw [gap, if_neg (by simp [h1]), if_neg h2, if_neg (fun h => h3 ⟨h.1, decide_eq_true h.2⟩)]
theorem gap_end : gap .out [] = .inl [] := by rw [gap]
theorem line_end : gap .line [] = gap .out [] := by rw [gap, gap]
theorem line_stop {a : UInt8} {r : List UInt8} (h : a.toNat = 10) : gap .line (a :: r) = gap .out (a :: r) := by
  rw [gap, if_pos h, gap_blank (by simp [isB, h])]
theorem line_step {a : UInt8} {r : List UInt8} (h : a.toNat ≠ 10) : gap .line (a :: r) = gap .line r := by rw [gap, if_neg h]
theorem block_short (d : Nat) (st r : List UInt8) (h : r.length ≤ 1) : gap (.block d st) r = .inr st := by
  match r, h with
  | [], _ => rw [gap]
  | [_], _ => rw [gap]
theorem block_up {a b : UInt8} {r st : List UInt8} {d : Nat} (h : a.toNat = 47) (h2 : b.toNat = 42) : gap (.block d st) (a :: b :: r) = gap (.block (d + 1) st) r := by rw [gap, if_pos ⟨h, h2⟩]
theorem block_down {a b : UInt8} {r st : List UInt8} {d : Nat} (h : a.toNat = 42) (h2 : b.toNat = 47) : gap (.block d st) (a :: b :: r) = if d = 1 then gap .out r else gap (.block (d - 1) st) r := by rw [gap, if_neg (by omega), if_pos ⟨h, h2⟩]
theorem block_step {a b : UInt8} {r st : List UInt8} {d : Nat} (h : ¬ (a.toNat = 47 ∧ b.toNat = 42)) (h2 : ¬ (a.toNat = 42 ∧ b.toNat = 47)) : gap (.block d st) (a :: b :: r) = gap (.block d st) (b :: r) := by rw [gap, if_neg h, if_neg h2]
/-- What stands from an open comment on is a rest of the text. -/
theorem gap_open_rest : ∀ (k : Nat) (m : Md) (r st : List UInt8), r.length ≤ k → gap m r = .inr st → (∃ u, r = u ++ st) ∨ ∃ d, m = .block d st := by
  intro k
  induction k with
  | zero =>
    intro m r st hk h
    have hr : r = [] := List.length_eq_zero_iff.1 (by omega)
    subst hr
    cases m with
    | out => rw [gap] at h; cases h
    | line => rw [gap] at h; cases h
    | block d s => rw [gap] at h; cases h; exact .inr ⟨d, rfl⟩
  | succ k ih =>
    intro m r st hk h
    have up : ∀ (x : UInt8) (r' : List UInt8), (∃ u, r' = u ++ st) → ∃ u, x :: r' = u ++ st := fun x r' ⟨u, e⟩ => ⟨x :: u, by rw [e]; rfl⟩
    cases m with
    | out =>
      match r, hk, h with
      | [], _, h => rw [gap] at h; cases h
      | a :: r, hk, h =>
        by_cases h1 : isB a = true
        · rw [gap_blank h1] at h
          rcases ih .out r st (by simp at hk; omega) h with h2 | ⟨d, h2⟩
          · exact .inl (up a r h2)
          · cases h2
        by_cases h2 : a.toNat = 37
        · rw [gap_mark h2] at h
          rcases ih .line r st (by simp at hk; omega) h with h2 | ⟨d, h2⟩
          · exact .inl (up a r h2)
          · cases h2
        by_cases h3 : a.toNat = 47 ∧ hdP (fun c => decide (c.toNat = 42)) r = true
        · cases r with
          | nil => exact absurd h3.2 (by simp [hdP])
          | cons b r =>
            have hb : b.toNat = 42 := of_decide_eq_true h3.2
            rw [gap_open h3.1 hb] at h
            rcases ih _ r st (by simp at hk; omega) h with h2 | ⟨d, h2⟩
            · exact .inl (up a _ (up b r h2))
            · simp only [Md.block.injEq] at h2
              exact .inl ⟨[], by rw [← h2.2]; rfl⟩
        · rw [gap_stop (by simpa using h1) h2 h3] at h; cases h
    | line =>
      match r, hk, h with
      | [], _, h => rw [gap] at h; cases h
      | a :: r, hk, h =>
        rw [gap] at h
        split at h
        · rcases ih .out r st (by simp at hk; omega) h with h2 | ⟨d, h2⟩
          · exact .inl (up a r h2)
          · cases h2
        · rcases ih .line r st (by simp at hk; omega) h with h2 | ⟨d, h2⟩
          · exact .inl (up a r h2)
          · cases h2
    | block d s =>
      match r, hk, h with
      | [], _, h => rw [gap] at h; cases h; exact .inr ⟨d, rfl⟩
      | [_], _, h => rw [gap] at h; cases h; exact .inr ⟨d, rfl⟩
      | a :: b :: r, hk, h =>
        rw [gap] at h
        split at h
        · rcases ih _ r st (by simp at hk; omega) h with h2 | ⟨d', h2⟩
          · exact .inl (up a _ (up b r h2))
          · simp only [Md.block.injEq] at h2; exact .inr ⟨d, by rw [h2.2]⟩
        · split at h
          · split at h
            · rcases ih _ r st (by simp at hk; omega) h with h2 | ⟨d', h2⟩
              · exact .inl (up a _ (up b r h2))
              · cases h2
            · rcases ih _ r st (by simp at hk; omega) h with h2 | ⟨d', h2⟩
              · exact .inl (up a _ (up b r h2))
              · simp only [Md.block.injEq] at h2; exact .inr ⟨d, by rw [h2.2]⟩
          · rcases ih _ (b :: r) st (by simp at hk ⊢; omega) h with h2 | ⟨d', h2⟩
            · exact .inl (up a _ h2)
            · simp only [Md.block.injEq] at h2; exact .inr ⟨d, by rw [h2.2]⟩

section
variable {acc r t rest : List UInt8} {a c : UInt8} {n : Nat}
theorem txt_low (h : a.toNat < 32) : txt acc (a :: r) = .quote := by rw [txt, if_pos h]
theorem txt_close (h : a.toNat = 34) : txt acc (a :: r) = .ok acc r := by rw [txt, if_neg (by omega), if_pos h]
theorem txt_bad (h : a.toNat = 92) (he : esc (a :: r) = none) : txt acc (a :: r) = .esc (a :: r) := by
  rw [txt, if_neg (by omega), if_neg (by omega), if_pos h]
  split
  · rfl
  · rename_i h5; rw [he] at h5; cases h5
theorem txt_esc (h : a.toNat = 92) (he : esc (a :: r) = some (c, n)) : txt acc (a :: r) = if acc.length = 255 then .long else txt (acc ++ [c]) ((a :: r).drop n) := by
  rw [txt, if_neg (by omega), if_neg (by omega), if_pos h]
  split
  · rename_i h5; rw [he] at h5; cases h5
  · rename_i h5; rw [he] at h5; cases h5; rfl
theorem txt_byte (h1 : ¬ a.toNat < 32) (h2 : a.toNat ≠ 34) (h3 : a.toNat ≠ 92) : txt acc (a :: r) = if acc.length = 255 then .long else txt (acc ++ [a]) r := by
  rw [txt, if_neg h1, if_neg h2, if_neg h3]
end
/-- What was read so far is the begin of what is read. -/
theorem txt_pre : ∀ (k : Nat) (acc r t rest : List UInt8), r.length ≤ k → txt acc r = .ok t rest → ∃ z, t = acc ++ z
  | _, acc, [], t, rest, _, h => by rw [txt] at h; cases h
  | 0, acc, _ :: _, t, rest, hk, _ => by simp at hk
  | k + 1, acc, a :: r, t, rest, hk, h => by
    by_cases h1 : a.toNat < 32
    · rw [txt_low h1] at h; cases h
    by_cases h2 : a.toNat = 34
    · rw [txt_close h2] at h; cases h; exact ⟨[], by simp⟩
    by_cases h3 : a.toNat = 92
    · cases he : esc (a :: r) with
      | none => rw [txt_bad h3 he] at h; cases h
      | some x =>
        obtain ⟨c, n⟩ := x
        rw [txt_esc h3 he] at h
        split at h
        · cases h
        · have hl := esc_len he
          obtain ⟨z, hz⟩ := txt_pre k _ _ t rest (by rw [List.length_drop]; simp at hk ⊢; omega) h
          exact ⟨[c] ++ z, by rw [hz, List.append_assoc]⟩
    · rw [txt_byte h1 h2 h3] at h
      split at h
      · cases h
      · obtain ⟨z, hz⟩ := txt_pre k _ _ t rest (by simp at hk; omega) h
        exact ⟨[a] ++ z, by rw [hz, List.append_assoc]⟩
/-- The last byte of a text's spelling is its quote. -/
theorem txt_last {acc t : List UInt8} {a : UInt8} (h : txt acc [a] = .ok t []) : a.toNat = 34 ∧ t = acc := by
  by_cases h1 : a.toNat < 32
  · rw [txt_low h1] at h; cases h
  by_cases h2 : a.toNat = 34
  · rw [txt_close h2] at h; cases h; exact ⟨h2, rfl⟩
  by_cases h3 : a.toNat = 92
  · have he : esc [a] = none := by unfold esc; rfl
    rw [txt_bad h3 he] at h; cases h
  · rw [txt_byte h1 h2 h3, txt] at h
    split at h <;> cases h
/-- A byte ahead of the last one. -/
theorem txt_more {acc t r : List UInt8} {a b : UInt8} (h : txt acc (a :: b :: r) = .ok t []) : ¬ a.toNat < 32 ∧ a.toNat ≠ 34 ∧
    ((a.toNat = 92 ∧ ∃ c n, esc (a :: b :: r) = some (c, n) ∧ n < r.length + 2 ∧ txt (acc ++ [c]) ((a :: b :: r).drop n) = .ok t []) ∨ (a.toNat ≠ 92 ∧ txt (acc ++ [a]) (b :: r) = .ok t [])) := by
  by_cases h1 : a.toNat < 32
  · rw [txt_low h1] at h; cases h
  by_cases h2 : a.toNat = 34
  · rw [txt_close h2] at h; cases h
  refine ⟨h1, h2, ?_⟩
  by_cases h3 : a.toNat = 92
  · cases he : esc (a :: b :: r) with
    | none => rw [txt_bad h3 he] at h; cases h
    | some x =>
      obtain ⟨c, n⟩ := x
      rw [txt_esc h3 he] at h
      split at h
      · cases h
      · refine .inl ⟨h3, c, n, rfl, ?_, h⟩
        have hl := esc_len he
        rcases Nat.lt_or_ge n (r.length + 2) with h5 | h5
        · exact h5
        · rw [List.drop_eq_nil_of_le (by simpa using h5), txt] at h; cases h
  · rw [txt_byte h1 h2 h3] at h
    split at h
    · cases h
    · exact .inr ⟨h3, h⟩

end Pl
end Go.Proofs.YthidnjnaifcfoaaDoor
