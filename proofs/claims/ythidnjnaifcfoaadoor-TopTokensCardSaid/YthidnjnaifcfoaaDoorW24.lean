/-
  What the law's two loops want of the tokens: in plain Lean. Conditions: those that each theorem states.
-/
import Derived.Test.YthidnjnaifcfoaaDoorW23
namespace Go.Proofs.YthidnjnaifcfoaaDoor
open Go.RowKit Go.Shelf Pl

def fixedS : ByteArray := ⟨#[112, 40, 88, 41, 32, 58, 45, 32, 110, 111, 116, 32, 113, 44, 32, 34, 97, 92, 120, 48, 48, 34, 32, 60, 61, 32, 45, 48, 49, 46, 32, 37, 32, 114, 10, 63]⟩
theorem fixed_scan : (scan 40 36 (L fixedS)).1.length = 12 ∧ (scan 40 36 (L fixedS)).2 = (10, 35) := by decide +kernel
theorem fixed_sc : ∃ ts, ts.length = 12 ∧ Sc (L fixedS) 0 ts (10, 35) := by
  refine ⟨(scan 40 36 (L fixedS)).1, fixed_scan.1, ?_⟩
  have h := scan_Sc (L fixedS) 40 0 (by decide +kernel) (by decide +kernel)
  rw [List.drop_zero, show (L fixedS).length = 36 by decide +kernel, fixed_scan.2] at h
  exact h

theorem sc_chain {s : ByteArray} {f : Nat × Nat} : ∀ {ts : List Tk} {p : Nat}, Sc (L s) p ts f → ∀ (i : Nat) (hi : i + 1 < ts.length), ∃ q, Sc (L s) q (ts.drop i) f ∧ Sc (L s) (ts[i]'(by omega)).fin (ts.drop (i + 1)) f
  | [], _, _, i, hi => by simp at hi
  | [_], _, _, i, hi => by simp at hi
  | t :: t2 :: ts, p, h, i, hi => by
    obtain ⟨r, h1, h2, h3⟩ := tok_facts h
    rcases h3 with ⟨_, h4, _⟩ | ⟨_, _, _, _, _, h4⟩
    · cases h4
    · cases i with
      | zero => exact ⟨p, h, h4⟩
      | succ i =>
        obtain ⟨q, g1, g2⟩ := sc_chain h4 i (by simpa using hi)
        exact ⟨q, g1, g2⟩
/-- Between two tokens lies a gap and nothing else. -/
theorem blank_at {s : ByteArray} {ts : List Tk} {f : Nat × Nat} (h : Sc (L s) 0 ts f) {i : Nat} (hi : i + 1 < ts.length) :
    (ts[i]'(by omega)).fin ≤ ts[i + 1].off ∧ ts[i + 1].off ≤ s.size ∧ gap .out (L (s.extract (ts[i]'(by omega)).fin ts[i + 1].off)) = .inl [] := by
  obtain ⟨q, g1, g2⟩ := sc_chain h i hi
  rw [List.drop_eq_getElem_cons hi] at g2
  obtain ⟨r, h1, h2, _⟩ := tok_facts g2
  have hg := gap_place h1
  rw [L_len] at hg
  obtain ⟨_, u, hu, hgu⟩ := gap_split _ .out _ _ (Nat.le_refl _) h1
  have hfin : (ts[i]'(by omega)).fin ≤ s.size := by
    rw [List.drop_eq_getElem_cons (show i < ts.length by omega)] at g1
    obtain ⟨r', _, _, h3⟩ := tok_facts g1
    rcases h3 with ⟨_, h4, _⟩ | ⟨_, _, h5, _, _, _⟩
    · have := congrArg List.length h4
      rw [List.length_drop, List.length_nil] at this; omega
    · exact h5
  have hl := congrArg List.length hu
  rw [List.length_drop, L_len, List.length_append] at hl
  refine ⟨by omega, by omega, ?_⟩
  rw [cut_drop, hu, show ts[i + 1].off - (ts[i]'(by omega)).fin = u.length by omega, List.take_left]
  exact hgu
/-- A token alone is that token. -/
theorem alone_at {s : ByteArray} {ts : List Tk} {f : Nat × Nat} (h : Sc (L s) 0 ts f) {i : Nat} (hi : i + 1 < ts.length) :
    (ts[i]'(by omega)).off ≤ (ts[i]'(by omega)).fin ∧ (ts[i]'(by omega)).fin ≤ s.size ∧ ∃ e, Sc (L (s.extract (ts[i]'(by omega)).off (ts[i]'(by omega)).fin)) 0 [⟨(ts[i]'(by omega)).kind, (ts[i]'(by omega)).text, (ts[i]'(by omega)).int, (ts[i]'(by omega)).op, 0, e⟩, ⟨0, [], 0, 0, e, e⟩] (0, 0) := by
  obtain ⟨q, g1, g2⟩ := sc_chain h i hi
  rw [List.drop_eq_getElem_cons (show i < ts.length by omega)] at g1
  obtain ⟨r, h1, h2, h3⟩ := tok_facts g1
  rcases h3 with ⟨_, h4, _⟩ | ⟨_, h5, h6, h7, _, _⟩
  · have := congrArg List.length h4
    rw [List.length_drop, List.length_nil] at this; omega
  · refine ⟨by omega, h6, (L (s.extract (ts[i]'(by omega)).off (ts[i]'(by omega)).fin)).length, ?_⟩
    obtain ⟨k1, k2⟩ := tok_self h7
    generalize L (s.extract (ts[i]'(by omega)).off (ts[i]'(by omega)).fin) = l at k1 k2 ⊢
    have hs := Sc.tok (l := l) 0 l [] _ _ _ _ [⟨0, [], 0, 0, l.length, l.length⟩] (0, 0) (by rw [List.drop_zero]; exact k1) k2 (Sc.fin _ (by simp [gap_end]))
    simpa using hs
end Go.Proofs.YthidnjnaifcfoaaDoor
