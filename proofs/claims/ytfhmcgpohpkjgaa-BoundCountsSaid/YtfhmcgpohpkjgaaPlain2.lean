/-
  Plain arithmetic of an odometer: lists of n digits below d, counted by going through them. No program is in sight here; no condition beyond those that each lemma states.
-/
namespace Go.Proofs.Ytfhmcgpohpkjgaa.Plain

def vald (d : Nat) : List Nat → Nat
  | [] => 0
  | x :: l => x + d * vald d l
def Below' (d : Nat) (l : List Nat) : Prop := ∀ j, j < l.length → l[j]?.getD 0 < d

theorem vald_set (d : Nat) (l : List Nat) (i x : Nat) (h : i < l.length) : vald d (l.set i x) + d ^ i * (l[i]?.getD 0) = vald d l + d ^ i * x := by
  induction l generalizing i with
  | nil => simp at h
  | cons a l ih =>
    cases i with
    | zero => simp [vald]; omega
    | succ i =>
      have := ih i (by simpa using h)
      simp only [List.set_cons_succ, vald, List.getElem?_cons_succ, Nat.pow_succ]
      have e1 : d ^ i * d * (l[i]?.getD 0) = d * (d ^ i * (l[i]?.getD 0)) := by rw [Nat.mul_comm (d ^ i) d, Nat.mul_assoc]
      have e2 : d ^ i * d * x = d * (d ^ i * x) := by rw [Nat.mul_comm (d ^ i) d, Nat.mul_assoc]
      rw [e1, e2, Nat.add_assoc, Nat.add_assoc, ← Nat.mul_add, ← Nat.mul_add, this]
theorem vald_lt {d : Nat} {l : List Nat} (h : Below' d l) : vald d l < d ^ l.length := by
  induction l with
  | nil => simp [vald]
  | cons a l ih =>
    have h1 := h 0 (by simp)
    have h2 := ih (fun j hj => by have := h (j + 1) (by simpa using hj); simpa using this)
    simp at h1
    simp only [vald, List.length_cons, Nat.pow_succ]
    have : d * vald d l + d ≤ d ^ l.length * d := by
      rw [Nat.mul_comm (d ^ l.length) d, ← Nat.mul_succ]; exact Nat.mul_le_mul_left _ h2
    omega
theorem vald_zero {d : Nat} {l : List Nat} (h : ∀ j, j < l.length → l[j]?.getD 0 = 0) : vald d l = 0 := by
  induction l with
  | nil => rfl
  | cons a l ih =>
    have h1 := h 0 (by simp)
    simp at h1
    have := ih (fun j hj => by have := h (j + 1) (by simpa using hj); simpa using this)
    simp [vald, h1, this]
theorem get_set (l : List Nat) (i j x : Nat) (h : i < l.length) : (l.set i x)[j]?.getD 0 = if j = i then x else l[j]?.getD 0 := by
  rw [List.getElem?_set]
  by_cases e : i = j
  · subst e; simp [h]
  · rw [if_neg e, if_neg (fun h => e h.symm)]

/-- At the head of the outer loop: c lists have been counted. -/
def OutInv (d n : Nat) (s : List Nat) (c : Nat) : Prop := s.length = n ∧ Below' d s ∧ vald d s = c
/-- In the inner loop, at place i: the first i digits have been turned over; c counts the list at hand too. -/
def InInv (d n i : Nat) (s : List Nat) (c : Nat) : Prop := s.length = n ∧ Below' d s ∧ i ≤ n ∧ (∀ j, j < i → s[j]?.getD 0 = 0) ∧ vald d s + d ^ i = c

theorem OutInv.start {d : Nat} (hd : 0 < d) (n : Nat) : OutInv d n (List.replicate n 0) 0 :=
  ⟨by simp, fun j hj => by simp at hj; simp [hj, hd], vald_zero fun j hj => by simp at hj; simp [hj]⟩
theorem OutInv.lt {d n c : Nat} {s : List Nat} (h : OutInv d n s c) : c < d ^ n := by
  obtain ⟨h1, h2, h3⟩ := h
  rw [← h3, ← h1]; exact vald_lt h2
theorem OutInv.enter {d n c : Nat} {s : List Nat} (h : OutInv d n s c) : InInv d n 0 s (c + 1) := by
  obtain ⟨h1, h2, h3⟩ := h
  exact ⟨h1, h2, Nat.zero_le _, fun j hj => by omega, by rw [h3, Nat.pow_zero]⟩
theorem InInv.stay {d n i c : Nat} {s : List Nat} (h : InInv d n i s c) (hi : i < n) (ht : s[i]?.getD 0 + 1 < d) : OutInv d n (s.set i (s[i]?.getD 0 + 1)) c := by
  obtain ⟨h1, h2, _, h4, h5⟩ := h
  refine ⟨by simp [h1], fun j hj => ?_, ?_⟩
  · rw [get_set _ _ _ _ (by omega)]
    split
    · exact ht
    · exact h2 j (by simpa using hj)
  · have := vald_set d s i (s[i]?.getD 0 + 1) (by omega)
    rw [Nat.mul_add, Nat.mul_one] at this
    omega
theorem InInv.turn {d n i c : Nat} {s : List Nat} (h : InInv d n i s c) (hi : i < n) (ht : ¬ s[i]?.getD 0 + 1 < d) : InInv d n (i + 1) (s.set i 0) c := by
  obtain ⟨h1, h2, _, h4, h5⟩ := h
  have hb := h2 i (by omega)
  refine ⟨by simp [h1], fun j hj => ?_, by omega, fun j hj => ?_, ?_⟩
  · rw [get_set _ _ _ _ (by omega)]
    split
    · omega
    · exact h2 j (by simpa using hj)
  · rw [get_set _ _ _ _ (by omega)]
    split
    · rfl
    · exact h4 j (by omega)
  · have := vald_set d s i 0 (by omega)
    have e : d ^ (i + 1) = d ^ i * (s[i]?.getD 0) + d ^ i := by
      rw [Nat.pow_succ, ← Nat.mul_succ]; congr 1; omega
    simp only [Nat.mul_zero, Nat.add_zero] at this
    omega
theorem InInv.stop {d n c : Nat} {s : List Nat} (h : InInv d n n s c) : c = d ^ n := by
  obtain ⟨h1, _, _, h4, h5⟩ := h
  rw [vald_zero (fun j hj => h4 j (by omega))] at h5
  omega

end Go.Proofs.Ytfhmcgpohpkjgaa.Plain
