/-
  The tokens of a text, as a relation: in plain Lean. No program in sight.
-/
import Derived.Test.YthidnjnaifcfoaaDoorP5
namespace Go.Proofs.YthidnjnaifcfoaaDoor
namespace Pl

/-- Behind the first p bytes of the text l come these tokens and this fault (its code, its place). -/
inductive Sc (l : List UInt8) : Nat → List Tk → Nat × Nat → Prop
  | openC (p : Nat) (st : List UInt8) : gap .out (l.drop p) = .inr st → Sc l p [] (16, l.length - st.length)
  | fin (p : Nat) : gap .out (l.drop p) = .inl [] → Sc l p [⟨0, [], 0, 0, l.length, l.length⟩] (0, 0)
  | fault (p : Nat) (r a : List UInt8) (code : Nat) : gap .out (l.drop p) = .inl r → next r = .fault code a → Sc l p [] (code, l.length - a.length)
  | tok (p : Nat) (r rest text : List UInt8) (kind op : Nat) (int : Int) (ts : List Tk) (f : Nat × Nat) : gap .out (l.drop p) = .inl r → next r = .tok kind op text int rest → Sc l (l.length - rest.length) ts f →
      Sc l p (⟨kind, text, int, op, l.length - r.length, l.length - rest.length⟩ :: ts) f
theorem Sc.unique {l : List UInt8} {p : Nat} {ts ts' : List Tk} {f f' : Nat × Nat} (h : Sc l p ts f) (h' : Sc l p ts' f') : ts = ts' ∧ f = f' := by
  induction h generalizing ts' f' with
  | openC p st h1 =>
    cases h' with
    | openC _ st' h2 => rw [h1] at h2; cases h2; exact ⟨rfl, rfl⟩
    | fin _ h2 => rw [h1] at h2; cases h2
    | fault _ r a code h2 h3 => rw [h1] at h2; cases h2
    | tok _ r rest text kind op int ts f h2 h3 h4 => rw [h1] at h2; cases h2
  | fin p h1 =>
    cases h' with
    | openC _ st' h2 => rw [h1] at h2; cases h2
    | fin _ h2 => exact ⟨rfl, rfl⟩
    | fault _ r a code h2 h3 => rw [h1] at h2; cases h2; unfold next at h3; cases h3
    | tok _ r rest text kind op int ts f h2 h3 h4 => rw [h1] at h2; cases h2; unfold next at h3; cases h3
  | fault p r a code h1 h1' =>
    cases h' with
    | openC _ st' h2 => rw [h1] at h2; cases h2
    | fin _ h2 => rw [h1] at h2; cases h2; unfold next at h1'; cases h1'
    | fault _ r a code h2 h3 => rw [h1] at h2; cases h2; rw [h1'] at h3; cases h3; exact ⟨rfl, rfl⟩
    | tok _ r rest text kind op int ts f h2 h3 h4 => rw [h1] at h2; cases h2; rw [h1'] at h3; cases h3
  | tok p r rest text kind op int ts f h1 h1' h1'' ih =>
    cases h' with
    | openC _ st' h2 => rw [h1] at h2; cases h2
    | fin _ h2 => rw [h1] at h2; cases h2; unfold next at h1'; cases h1'
    | fault _ r a code h2 h3 => rw [h1] at h2; cases h2; rw [h1'] at h3; cases h3
    | tok _ r' rest' text' kind' op' int' ts' f' h2 h3 h4 =>
      rw [h1] at h2; cases h2
      rw [h1'] at h3; cases h3
      obtain ⟨e1, e2⟩ := ih h4
      exact ⟨by rw [e1], e2⟩
theorem drop_rest {l w rest : List UInt8} {p : Nat} (h : l.drop p = w ++ rest) : l.drop (l.length - rest.length) = rest := by
  have h1 : l = l.take p ++ (w ++ rest) := by rw [← h, List.take_append_drop]
  obtain ⟨q, hq⟩ : ∃ q, q = l.take p := ⟨_, rfl⟩
  rw [← hq] at h1
  clear hq h
  subst h1
  have e : (q ++ (w ++ rest)).length - rest.length = (q ++ w).length := by simp only [List.length_append]; omega
  rw [e, ← List.append_assoc]
  exact List.drop_left
/-- What a gap and a token behind it are, by place. -/
theorem gap_place {l r : List UInt8} {p : Nat} (h : gap .out (l.drop p) = .inl r) : l.drop (l.length - r.length) = r ∧ r.length ≤ l.length - p := by
  obtain ⟨_, u, e, _⟩ := gap_split (l.drop p).length .out _ _ (Nat.le_refl _) h
  refine ⟨drop_rest e, ?_⟩
  have := congrArg List.length e
  rw [List.length_append, List.length_drop] at this
  omega
theorem scan_Sc (l : List UInt8) : ∀ (k p : Nat), l.length - p < k → p ≤ l.length → Sc l p (scan k l.length (l.drop p)).1 (scan k l.length (l.drop p)).2
  | 0, p, h, _ => by omega
  | k + 1, p, h, hp => by
    rw [scan]
    cases hg : gap .out (l.drop p) with
    | inr st => exact Sc.openC p st hg
    | inl r =>
      obtain ⟨e1, e2⟩ := gap_place hg
      simp only
      cases hn : next r with
      | fin =>
        have hr : r = [] := by
          cases r with
          | nil => rfl
          | cons c r =>
            exfalso
            unfold next at hn
            simp only at hn
            unfold nextInt nextWord nextText nextSign at hn
            repeat' split at hn
            all_goals cases hn
        subst hr
        exact Sc.fin p hg
      | fault code a => exact Sc.fault p r a code hg hn
      | tok kind op text int rest =>
        obtain ⟨w, h1, h2, _⟩ := next_tok hn
        have hl := congrArg List.length h1
        rw [List.length_append] at hl
        have hw : 0 < w.length := by cases w with
          | nil => exact absurd rfl h2
          | cons => simp
        have e3 : l.drop (l.length - rest.length) = rest := by
          rw [h1] at e1
          have := drop_rest (l := l) (p := l.length - (w ++ rest).length) (w := w) (rest := rest) e1
          exact this
        have ih := scan_Sc l k (l.length - rest.length) (by omega) (by omega)
        rw [e3] at ih
        exact Sc.tok p r rest text kind op int _ _ hg hn ih

end Pl
end Go.Proofs.YthidnjnaifcfoaaDoor
