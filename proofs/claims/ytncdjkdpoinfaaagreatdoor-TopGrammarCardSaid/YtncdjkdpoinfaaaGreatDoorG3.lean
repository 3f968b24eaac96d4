/-
  Texts of this seat, one behind the other: P10, P11, P12, P13, P14, P15, P16. Conditions: those that each of them states.
-/
import Derived.Test.YtncdjkdpoinfaaaGreatDoorG2
/-
  A fault of the parser has a code. No program in sight.
-/
namespace Go.Proofs.YtncdjkdpoinfaaaGreatDoor
namespace Pl
namespace Gr
/-- The tokens end with the end, or there is a fault. -/
def Ends (f : Flt) (ts : List Tk) : Prop := f.1 ≠ 0 ∨ ∃ p t, ts = p ++ [t] ∧ t.kind = 0
section
variable {f : Flt} {vars : Bool} {t : Tk} {r ts : List Tk} {e : Flt}
theorem Ends.none (h : Ends f []) : f.1 ≠ 0 := by
  rcases h with h | ⟨p, t, e, _⟩
  · exact h
  · simp at e
theorem Ends.tail (h : Ends f (t :: r)) (hk : t.kind ≠ 0) : Ends f r := by
  rcases h with h | ⟨p, u, e, hu⟩
  · exact .inl h
  · cases p with
    | nil => simp at e; exact absurd hu (by rw [← e.1]; exact hk)
    | cons x p => simp at e; exact .inr ⟨p, u, e.2, hu⟩
theorem ref_code (t : Tk) : (ref t).1 ≠ 0 := by unfold ref; simp only; split <;> decide
theorem isT_kind (h : isT vars t.kind = true) : t.kind ≠ 0 := by
  intro e
  simp [isT, e] at h
theorem args_code : ∀ (n : Nat) (ts : List Tk), Ends f ts → (∀ e, argsP f vars n ts = .error e → e.1 ≠ 0) ∧ ∀ as r, argsP f vars n ts = .ok (as, r) → Ends f r
  | n, [], h => ⟨fun e he => by simp [argsP] at he; rw [← he]; exact h.none, fun as r he => by simp [argsP] at he⟩
  | n, [t], h => by
    refine ⟨fun e he => ?_, fun as r he => ?_⟩
    · simp only [argsP] at he
      split at he
      · simp at he; rw [← he]; simp
      · split at he
        · rename_i hv; simp at he; rw [← he]; exact (h.tail (isT_kind hv)).none
        · simp at he; rw [← he]; exact ref_code t
    · simp only [argsP] at he
      split at he
      · simp at he
      · split at he <;> simp at he
  | n, t :: s :: r, h => by
    by_cases hv : isT vars t.kind = true
    · have h1 := h.tail (isT_kind hv)
      refine ⟨fun e he => ?_, fun as r' he => ?_⟩
      · simp only [argsP, hv, and_true, if_true] at he
        split at he
        · simp at he; rw [← he]; simp
        · split at he
          · rename_i h7
            have ih := args_code (n + 1) r (h1.tail (by omega))
            split at he
            · rename_i e' he'; simp at he; rw [← he]; exact ih.1 _ he'
            · simp at he
          · split at he
            · simp at he
            · simp at he; rw [← he]; exact ref_code s
      · simp only [argsP, hv, and_true, if_true] at he
        split at he
        · simp at he
        · split at he
          · rename_i h7
            have ih := args_code (n + 1) r (h1.tail (by omega))
            split at he
            · simp at he
            · rename_i as' r'' he'; simp at he; rw [← he.2]; exact ih.2 _ _ he'
          · split at he
            · rename_i h6; simp at he; rw [← he.2]; exact h1.tail (by omega)
            · simp at he
    · refine ⟨fun e he => ?_, fun as r' he => ?_⟩
      · simp [argsP, hv] at he; rw [← he]; exact ref_code t
      · simp [argsP, hv] at he
theorem rest_code (h : Ends f ts) : (∀ e, restP f vars ts = .error e → e.1 ≠ 0) ∧ ∀ as r, restP f vars ts = .ok (as, r) → Ends f r := by
  cases ts with
  | nil => exact ⟨fun e he => by simp [restP] at he; rw [← he]; exact h.none, fun as r he => by simp [restP] at he⟩
  | cons s u =>
    by_cases h5 : s.kind = 5
    · have := args_code (vars := vars) 0 u (h.tail (by omega))
      simpa [restP, h5] using this
    · exact ⟨fun e he => by simp [restP, h5] at he, fun as r he => by simp [restP, h5] at he; rw [← he.2]; exact h⟩
theorem atom_code (h : Ends f ts) : (∀ e, atomP f vars ts = .error e → e.1 ≠ 0) ∧ ∀ a r, atomP f vars ts = .ok (a, r) → Ends f r := by
  cases ts with
  | nil => exact ⟨fun e he => by simp [atomP] at he; rw [← he]; exact h.none, fun as r he => by simp [atomP] at he⟩
  | cons t u =>
    rw [atomP_rest]
    by_cases h1 : t.kind = 1
    · have := rest_code (vars := vars) (h.tail (by omega))
      simp only [h1, if_true]
      cases hr : restP f vars u with
      | error e' => exact ⟨fun e he => by simp at he; rw [← he]; exact this.1 _ hr, fun a r he => by simp at he⟩
      | ok x => exact ⟨fun e he => by simp at he, fun a r he => by simp at he; rw [← he.2]; exact this.2 x.1 x.2 hr⟩
    · exact ⟨fun e he => by simp [h1] at he; rw [← he]; exact ref_code t, fun a r he => by simp [h1] at he⟩
theorem lit_code (h : Ends f ts) : (∀ e, litP f ts = .error e → e.1 ≠ 0) ∧ ∀ a r, litP f ts = .ok (a, r) → Ends f r := by
  cases ts with
  | nil => exact ⟨fun e he => by simp [litP] at he; rw [← he]; exact h.none, fun as r he => by simp [litP] at he⟩
  | cons t u =>
    simp only [litP]
    by_cases h10 : t.kind = 10
    · have := atom_code (vars := true) (h.tail (by omega))
      simp only [h10, if_true]
      cases hr : atomP f true u with
      | error e' => exact ⟨fun e he => by simp at he; rw [← he]; exact this.1 _ hr, fun a r he => by simp at he⟩
      | ok x => exact ⟨fun e he => by simp at he, fun a r he => by simp at he; rw [← he.2]; exact this.2 x.1 x.2 hr⟩
    · simp only [h10, if_false]
      by_cases h1 : t.kind = 1 ∧ hdOp u = false
      · have := atom_code (vars := true) h
        rw [if_pos h1]
        cases hr : atomP f true (t :: u) with
        | error e' => exact ⟨fun e he => by simp at he; rw [← he]; exact this.1 _ hr, fun a r he => by simp at he⟩
        | ok x => exact ⟨fun e he => by simp at he, fun a r he => by simp at he; rw [← he.2]; exact this.2 x.1 x.2 hr⟩
      · rw [if_neg h1]
        by_cases hv : isT true t.kind = true
        · have h2 := h.tail (isT_kind hv)
          simp only [termP, hv, if_true]
          cases u with
          | nil => exact ⟨fun e he => by simp [takeP] at he; rw [← he]; exact h2.none, fun a r he => by simp [takeP] at he⟩
          | cons o u1 =>
            by_cases ho : o.kind = 11
            · have h3 := h2.tail (by omega)
              simp only [takeP, ho, if_true]
              cases u1 with
              | nil => exact ⟨fun e he => by simp at he; rw [← he]; exact h3.none, fun a r he => by simp at he⟩
              | cons x u2 =>
                by_cases hx : isT true x.kind = true
                · exact ⟨fun e he => by simp [hx] at he, fun a r he => by simp [hx] at he; rw [← he.2]; exact h3.tail (isT_kind hx)⟩
                · exact ⟨fun e he => by simp [hx] at he; rw [← he]; exact ref_code x, fun a r he => by simp [hx] at he⟩
            · exact ⟨fun e he => by simp [takeP, ho] at he; rw [← he]; exact ref_code o, fun a r he => by simp [takeP, ho] at he⟩
        · exact ⟨fun e he => by simp [termP, hv] at he; rw [← he]; exact ref_code t, fun a r he => by simp [termP, hv] at he⟩
end
theorem body_code {f : Flt} : ∀ {n : Nat} {ts : List Tk} {res : Res (List Lit)}, BodyR f n ts res → Ends f ts → (∀ e, res = .error e → e.1 ≠ 0) ∧ ∀ a r, res = .ok (a, r) → Ends f r := by
  intro n ts res h
  induction h with
  | none n => exact fun h => ⟨fun e he => by simp at he; rw [← he]; exact h.none, fun a r he => by simp at he⟩
  | many n t r h1 h2 => exact fun h => ⟨fun e he => by simp at he; rw [← he]; simp, fun a r he => by simp at he⟩
  | bad n t r e' h1 h2 => exact fun h => ⟨fun e he => by simp at he; rw [← he]; exact (lit_code h).1 _ h2, fun a r he => by simp at he⟩
  | ends n t r x h1 h2 => exact fun h => ⟨fun e he => by simp at he; rw [← he]; exact ((lit_code h).2 _ _ h2).none, fun a r he => by simp at he⟩
  | comma n t r x s r1 e' h1 h2 h3 h4 ih =>
    exact fun h => ⟨fun e he => (ih (((lit_code h).2 _ _ h2).tail (by omega))).1 e he, fun a r he => by simp at he⟩
  | commaOk n t r x s r1 xs r2 h1 h2 h3 h4 ih =>
    exact fun h => ⟨fun e he => by simp at he, fun a r he => by simp at he; rw [← he.2]; exact (ih (((lit_code h).2 _ _ h2).tail (by omega))).2 _ _ rfl⟩
  | dot n t r x s r1 h1 h2 h3 => exact fun h => ⟨fun e he => by simp at he, fun a r he => by simp at he; rw [← he.2]; exact ((lit_code h).2 _ _ h2).tail (by omega)⟩
  | other n t r x s r1 h1 h2 h3 h4 => exact fun h => ⟨fun e he => by simp at he; rw [← he]; exact ref_code s, fun a r he => by simp at he⟩
theorem cls_code {f : Flt} {ts : List Tk} {res : Res Cls} (hR : ClsR f ts res) (h : Ends f ts) : (∀ e, res = .error e → e.1 ≠ 0) ∧ ∀ a r, res = .ok (a, r) → Ends f r := by
  cases hR with
  | head e' h1 => exact ⟨fun e he => by simp at he; rw [← he]; exact (atom_code h).1 _ h1, fun a r he => by simp at he⟩
  | none a h1 => exact ⟨fun e he => by simp at he; rw [← he]; exact ((atom_code h).2 _ _ h1).none, fun a r he => by simp at he⟩
  | dot a s r h1 h2 => exact ⟨fun e he => by simp at he, fun a r he => by simp at he; rw [← he.2]; exact ((atom_code h).2 _ _ h1).tail (by omega)⟩
  | arrow a s r e' h1 h2 h3 => exact ⟨fun e he => by simp at he; rw [← he]; exact (body_code h3 (((atom_code h).2 _ _ h1).tail (by omega))).1 _ rfl, fun a r he => by simp at he⟩
  | arrowOk a s r xs r2 h1 h2 h3 => exact ⟨fun e he => by simp at he, fun a r he => by simp at he; rw [← he.2]; exact (body_code h3 (((atom_code h).2 _ _ h1).tail (by omega))).2 _ _ rfl⟩
  | other a s r h1 h2 h3 => exact ⟨fun e he => by simp at he; rw [← he]; exact ref_code s, fun a r he => by simp at he⟩
theorem prog_code {f : Flt} : ∀ {c : Nat} {ts : List Tk} {res : Except Flt (List Cls)}, ProgR f c ts res → Ends f ts → ∀ e, res = .error e → e.1 ≠ 0 := by
  intro c ts res h
  induction h with
  | none c => exact fun h e he => by simp at he; rw [← he]; exact h.none
  | fin c t r h => exact fun h e he => by simp at he
  | many c t r h1 h2 => exact fun h e he => by simp at he; rw [← he]; simp
  | bad c t r e' h1 h2 h3 => exact fun h e he => (cls_code h3 h).1 e (by simp at he; rw [he])
  | more c t r x r1 e' h1 h2 h3 h4 ih => exact fun h e he => ih ((cls_code h3 h).2 _ _ rfl) e he
  | moreOk c t r x r1 xs h1 h2 h3 h4 ih => exact fun h e he => by simp at he
theorem facts_code {f : Flt} : ∀ {c : Nat} {ts : List Tk} {res : Except Flt (List Atm)}, FactsR f c ts res → Ends f ts → ∀ e, res = .error e → e.1 ≠ 0 := by
  intro c ts res h
  have t8 : ∀ {us : List Tk} {e : Flt}, Ends f us → takeP f 8 us = .error e → e.1 ≠ 0 := fun {us e} hu he => by
    cases us with
    | nil => simp [takeP] at he; rw [← he]; exact hu.none
    | cons t u =>
      by_cases h8 : t.kind = 8
      · simp [takeP, h8] at he
      · simp [takeP, h8] at he; rw [← he]; exact ref_code t
  induction h with
  | none c => exact fun h e he => by simp at he; rw [← he]; exact h.none
  | fin c t r h => exact fun h e he => by simp at he
  | many c t r h1 h2 => exact fun h e he => by simp at he; rw [← he]; simp
  | bad c t r e' h1 h2 h3 => exact fun h e he => by simp at he; rw [← he]; exact (atom_code h).1 _ h3
  | undot c t r x r1 e' h1 h2 h3 h4 => exact fun h e he => by simp at he; rw [← he]; exact t8 ((atom_code h).2 _ _ h3) h4
  | more c t r x r1 s r2 e' h1 h2 h3 h4 h5 ih =>
    exact fun h e he => by
      obtain ⟨e2, hk⟩ := take8_rd h4
      have h6 := (atom_code h).2 _ _ h3
      rw [e2] at h6
      exact ih (h6.tail (by omega)) e he
  | moreOk c t r x r1 s r2 xs h1 h2 h3 h4 h5 ih => exact fun h e he => by simp at he
theorem take0_code {f : Flt} {us : List Tk} {e : Flt} (hu : Ends f us) (he : takeP f 0 us = .error e) : e.1 ≠ 0 := by
  cases us with
  | nil => simp [takeP] at he; rw [← he]; exact hu.none
  | cons t u =>
    by_cases h8 : t.kind = 0
    · simp [takeP, h8] at he
    · simp [takeP, h8] at he; rw [← he]; exact ref_code t
theorem query_code {f : Flt} {ts : List Tk} {res : Except Flt (List Lit)} (hR : QueryR f ts res) (h : Ends f ts) : ∀ e, res = .error e → e.1 ≠ 0 := by
  cases hR with
  | bad e' h1 => exact fun e he => by simp at he; rw [← he]; exact (body_code h1 h).1 _ rfl
  | open_ xs r e' h1 h2 => exact fun e he => by simp at he; rw [← he]; exact take0_code ((body_code h1 h).2 _ _ rfl) h2
  | ok xs r s r2 h1 h2 => exact fun e he => by simp at he
theorem fact_code {f : Flt} {ts : List Tk} {e : Flt} (h : Ends f ts) (he : factP f ts = .error e) : e.1 ≠ 0 := by
  unfold factP at he
  cases ha : atomP f false ts with
  | error e' => rw [ha] at he; simp at he; rw [← he]; exact (atom_code h).1 _ ha
  | ok x =>
    rw [ha] at he
    simp only at he
    cases h0 : takeP f 0 x.2 with
    | error e' => rw [h0] at he; simp at he; rw [← he]; exact take0_code ((atom_code h).2 x.1 x.2 ha) h0
    | ok y => rw [h0] at he; simp at he
end Gr
end Pl
end Go.Proofs.YtncdjkdpoinfaaaGreatDoor
/-
  The tokens of a text end with the end, or there is a fault. No program in sight.
-/
namespace Go.Proofs.YtncdjkdpoinfaaaGreatDoor
namespace Pl
namespace Gr
theorem next_code {r a : List UInt8} {code : Nat} (h : next r = .fault code a) : code ≠ 0 := by
  cases r with
  | nil => simp [next] at h
  | cons c r =>
    simp only [next] at h
    split at h
    · unfold nextInt at h
      split at h
      · split at h
        · simp at h
        · simp at h; omega
      · simp at h; omega
    · split at h
      · unfold nextInt at h
        split at h
        · split at h
          · simp at h
          · simp at h; omega
        · simp at h; omega
      · split at h
        · unfold nextWord at h
          split at h
          · simp at h; omega
          · split at h
            · simp at h
            · split at h <;> simp at h
        · split at h
          · unfold nextText at h
            split at h <;> simp at h <;> omega
          · unfold nextSign at h
            split at h
            · simp at h
            · simp at h; omega
theorem sc_ends {l : List UInt8} {p : Nat} {ts : List Tk} {f : Nat × Nat} (h : Sc l p ts f) : Ends f ts := by
  induction h with
  | openC p st h => exact .inl (by simp)
  | fin p h => exact .inr ⟨[], _, rfl, rfl⟩
  | fault p r a code h1 h2 => exact .inl (next_code h2)
  | tok p r rest text kind op int ts f h1 h2 h3 ih =>
    rcases ih with h | ⟨q, t, e, hk⟩
    · exact .inl h
    · exact .inr ⟨_ :: q, t, by rw [e]; rfl, hk⟩
end Gr
end Pl
end Go.Proofs.YtncdjkdpoinfaaaGreatDoor
/-
  What the parser's literals bear; the tokens as which a piece reads, built one by one; what the law's comparison wants. No program in sight.
-/
namespace Go.Proofs.YtncdjkdpoinfaaaGreatDoor
namespace Pl
namespace Gr
/-- What a literal of the parser bears besides its kind's own. -/
def LitOk (x : Lit) : Prop :=
  (x.kind = 1 ∧ x.left = .none ∧ x.right = .none ∧ x.op = 0 ∧ x.off = x.atom.off) ∨ (x.kind = 2 ∧ x.left = .none ∧ x.right = .none ∧ x.op = 0) ∨ (x.kind = 3 ∧ x.off = x.left.off ∧ x.atom = ⟨[], [], 0⟩)
theorem trm_off (t : Tk) : (trm t).off = t.off := by
  unfold trm
  repeat' split
  all_goals rfl
theorem atom_off {f : Flt} {vars : Bool} {t : Tk} {r r' : List Tk} {a : Atm} (h : atomP f vars (t :: r) = .ok (a, r')) : a.off = t.off := by
  rw [atomP_rest] at h
  split at h
  · split at h
    · simp at h
    · simp at h; rw [← h.1]
  · simp at h
theorem litP_ok {f : Flt} {ts r : List Tk} {x : Lit} (h : litP f ts = .ok (x, r)) : LitOk x := by
  cases ts with
  | nil => simp [litP] at h
  | cons t u =>
    simp only [litP] at h
    split at h
    · split at h
      · simp at h
      · simp at h; rw [← h.1]; exact .inr (.inl ⟨rfl, rfl, rfl, rfl⟩)
    · split at h
      · split at h
        · simp at h
        · rename_i a r' ha
          simp at h; rw [← h.1]; exact .inl ⟨rfl, rfl, rfl, rfl, (atom_off ha).symm⟩
      · split at h
        · simp at h
        · rename_i y r1 hy
          split at h
          · simp at h
          · split at h
            · simp at h
            · simp at h; rw [← h.1]
              refine .inr (.inr ⟨rfl, ?_, rfl⟩)
              simp only [termP] at hy
              split at hy
              · simp at hy; rw [← hy.1]; exact (trm_off t).symm
              · simp at hy
theorem body_lits {f : Flt} : ∀ {n : Nat} {ts : List Tk} {res : Res (List Lit)}, BodyR f n ts res → ∀ xs r, res = .ok (xs, r) → ∀ x ∈ xs, LitOk x := by
  intro n ts res h
  induction h with
  | none n => intro xs r h; simp at h
  | many n t r h1 h2 => intro xs r h; simp at h
  | bad n t r e' h1 h2 => intro xs r h; simp at h
  | ends n t r x h1 h2 => intro xs r h; simp at h
  | comma n t r x s r1 e' h1 h2 h3 h4 ih => intro xs r h; simp at h
  | commaOk n t r x s r1 xs' r2 h1 h2 h3 h4 ih =>
    intro xs r h y hy; simp at h; rw [← h.1] at hy
    rcases List.mem_cons.1 hy with rfl | hy
    · exact litP_ok h2
    · exact ih _ _ rfl y hy
  | dot n t r x s r1 h1 h2 h3 =>
    intro xs r h y hy; simp at h; rw [← h.1] at hy
    obtain rfl := List.mem_singleton.1 hy
    exact litP_ok h2
  | other n t r x s r1 h1 h2 h3 => intro xs r h; simp at h
theorem cls_lits {f : Flt} {ts : List Tk} {res : Res Cls} (h : ClsR f ts res) : ∀ x r, res = .ok (x, r) → ∀ l ∈ x.body, LitOk l := by
  cases h with
  | head e' h1 => intro x r h; simp at h
  | none a h1 => intro x r h; simp at h
  | dot a s r2 h1 h2 => intro x r h; simp at h; rw [← h.1]; intro l hl; simp at hl
  | arrow a s r2 e' h1 h2 h3 => intro x r h; simp at h
  | arrowOk a s r2 xs r3 h1 h2 h3 => intro x r h; simp at h; rw [← h.1]; exact body_lits h3 _ _ rfl
  | other a s r2 h1 h2 h3 => intro x r h; simp at h
theorem prog_lits {f : Flt} : ∀ {c : Nat} {ts : List Tk} {res : Except Flt (List Cls)}, ProgR f c ts res → ∀ xs, res = .ok xs → ∀ x ∈ xs, ∀ l ∈ x.body, LitOk l := by
  intro c ts res h
  induction h with
  | none c => intro xs h; simp at h
  | fin c t r h => intro xs h; simp at h; subst h; intro x hx; simp at hx
  | many c t r h1 h2 => intro xs h; simp at h
  | bad c t r e h1 h2 h3 => intro xs h; simp at h
  | more c t r x r1 e h1 h2 h3 h4 ih => intro xs h; simp at h
  | moreOk c t r x r1 xs' h1 h2 h3 h4 ih =>
    intro xs h; simp at h; subst h
    intro y hy
    rcases List.mem_cons.1 hy with rfl | hy
    · exact cls_lits h3 _ _ rfl
    · exact ih _ rfl y hy
theorem query_lits {f : Flt} {ts : List Tk} {res : Except Flt (List Lit)} (h : QueryR f ts res) : ∀ xs, res = .ok xs → ∀ x ∈ xs, LitOk x := by
  cases h with
  | bad e h => intro xs h; simp at h
  | open_ ys r e h1 h2 => intro xs h; simp at h
  | ok ys r s r2 h1 h2 => intro xs h; simp at h; subst h; exact body_lits h1 _ _ rfl

/-! ### One by one -/
def argsPre : List Trm → List Ex
  | [] => []
  | x :: xs => mkE 5 :: flatTerm x :: flatMore xs
theorem flatMore_snoc (xs : List Trm) (x : Trm) : flatMore (xs ++ [x]) = flatMore xs ++ [mkE 7, flatTerm x] := by
  induction xs with
  | nil => rfl
  | cons y ys ih => simp only [List.cons_append, flatMore, ih]
theorem argsPre_snoc (xs : List Trm) (x : Trm) : argsPre (xs ++ [x]) = argsPre xs ++ [mkE (if xs = [] then 5 else 7), flatTerm x] := by
  cases xs with
  | nil => rfl
  | cons y ys => simp only [List.cons_append, argsPre, flatMore_snoc]; simp
theorem flatArgs_pre (xs : List Trm) : flatArgs xs = if xs = [] then [] else argsPre xs ++ [mkE 6] := by
  cases xs with
  | nil => rfl
  | cons y ys => simp [flatArgs, argsPre]
theorem flatMore_len (xs : List Trm) : (flatMore xs).length = 2 * xs.length := by
  induction xs with
  | nil => rfl
  | cons y ys ih => simp only [flatMore, List.length_cons, ih]; omega
theorem argsPre_len (xs : List Trm) : (argsPre xs).length = 2 * xs.length := by
  cases xs with
  | nil => rfl
  | cons y ys => simp only [argsPre, List.length_cons, flatMore_len]; omega
theorem flatAtom_len (a : Atm) : (flatAtom a).length = if a.args = [] then 1 else 2 * a.args.length + 2 := by
  simp only [flatAtom, List.length_cons, flatArgs_pre]
  split
  · simp
  · simp [argsPre_len]
theorem flatLits_snoc (xs : List Lit) (x : Lit) : flatLits (xs ++ [x]) = flatLits xs ++ mkE 7 :: flatLit x := by
  induction xs with
  | nil => simp [flatLits]
  | cons y ys ih => simp only [List.cons_append, flatLits, ih, List.append_assoc]
theorem flatBody_snoc (xs : List Lit) (x : Lit) : flatBody (xs ++ [x]) = flatBody xs ++ (if xs = [] then [] else [mkE 7]) ++ flatLit x := by
  cases xs with
  | nil => simp [flatBody, flatLits]
  | cons y ys => simp [flatBody, flatLits_snoc]
theorem flatProg_flat (xs : List Cls) : flatProg xs = xs.flatMap flatCls ++ [mkE 0] := by
  induction xs with
  | nil => rfl
  | cons y ys ih => simp only [flatProg, ih, List.flatMap_cons, List.append_assoc]
theorem flatFacts_flat (xs : List Atm) : flatFacts xs = xs.flatMap (fun x => flatAtom x ++ [mkE 8]) ++ [mkE 0] := by
  induction xs with
  | nil => rfl
  | cons y ys ih => simp only [flatFacts, ih, List.flatMap_cons, List.append_assoc]; simp
theorem flatMap_snoc {α β : Type} (g : α → List β) (xs : List α) (x : α) : (xs ++ [x]).flatMap g = xs.flatMap g ++ g x := by simp
theorem take_snoc {α : Type} {xs : List α} {i : Nat} (hi : i < xs.length) : xs.take (i + 1) = xs.take i ++ [xs[i]] := by
  rw [List.take_succ_eq_append_getElem hi]
theorem flatMap_take_le {α β : Type} (g : α → List β) (xs : List α) (i : Nat) : ((xs.take i).flatMap g).length ≤ (xs.flatMap g).length := by
  induction xs generalizing i with
  | nil => simp
  | cons y ys ih =>
    cases i with
    | zero => simp
    | succ i => simp only [List.take_succ_cons, List.flatMap_cons, List.length_append]; have := ih i; omega
theorem flatMap_mem_le {α β : Type} (g : α → List β) {xs : List α} {x : α} (h : x ∈ xs) : (g x).length ≤ (xs.flatMap g).length := by
  induction xs with
  | nil => simp at h
  | cons y ys ih =>
    simp only [List.flatMap_cons, List.length_append]
    rcases List.mem_cons.1 h with rfl | h
    · omega
    · have := ih h; omega
theorem flatLit_pos (x : Lit) : 0 < (flatLit x).length := by
  unfold flatLit
  repeat' split
  all_goals simp [flatAtom]
theorem flatBody_take_le (xs : List Lit) (i : Nat) : (flatBody (xs.take i)).length ≤ (flatBody xs).length := by
  have h : ∀ ys i, (flatLits (ys.take i)).length ≤ (flatLits ys).length := by
    intro ys
    induction ys with
    | nil => simp
    | cons y ys ih =>
      intro i
      cases i with
      | zero => simp [flatLits]
      | succ i => simp only [List.take_succ_cons, flatLits, List.length_append, List.length_cons]; have := ih i; omega
  cases xs with
  | nil => simp
  | cons y ys =>
    cases i with
    | zero => simp [flatBody]
    | succ i => simp only [List.take_succ_cons, flatBody, List.length_append]; have := h ys i; omega
theorem flatBody_mem_le {xs : List Lit} {x : Lit} (h : x ∈ xs) : (flatLit x).length ≤ (flatBody xs).length := by
  have k : ∀ ys : List Lit, x ∈ ys → (flatLit x).length ≤ (flatLits ys).length := by
    intro ys
    induction ys with
    | nil => simp
    | cons y ys ih =>
      intro h
      simp only [flatLits, List.length_append, List.length_cons]
      rcases List.mem_cons.1 h with rfl | h
      · omega
      · have := ih h; omega
  cases xs with
  | nil => simp at h
  | cons y ys =>
    simp only [flatBody, List.length_append]
    rcases List.mem_cons.1 h with rfl | h
    · omega
    · have := k ys h; omega

/-! ### What is compared -/
structure Ev where
  kind : Nat
  text : List UInt8
  int : Int
  op : Nat
  off : Nat
  fin : Int
def ev (e : Ex) : Ev := ⟨e.kind, e.text, e.int, e.op, e.off.getD 0, if e.off = none then -1 else 0⟩
def Ev.free (x : Ev) : Ev := { x with fin := -1 }
structure MtV (t : Tk) (x : Ev) : Prop where
  kind : t.kind = x.kind
  text : t.text = x.text
  int : t.int = x.int
  op : t.op = x.op
  off : x.fin = -1 ∨ t.off = x.off
theorem Mt.v {t : Tk} {e : Ex} (h : Mt t e) : MtV t (ev e) := by
  refine ⟨h.kind, h.text, h.int, h.op, ?_⟩
  unfold ev
  cases ho : e.off with
  | none => exact .inl (by simp)
  | some o => exact .inr (by simpa using h.off o ho)
theorem Rd.at {ts : List Tk} {es : List Ex} (h : Rd ts es) : ts.length = es.length ∧ ∀ (i : Nat) (h1 : i < ts.length) (h2 : i < es.length), MtV ts[i] (ev es[i]) := by
  induction h with
  | nil => exact ⟨rfl, fun i h1 _ => absurd h1 (by simp)⟩
  | cons h1 _ ih =>
    refine ⟨by simp [ih.1], fun i => ?_⟩
    cases i with
    | zero => intro _ _; exact h1.v
    | succ i => intro k1 k2; exact ih.2 i (by simpa using k1) (by simpa using k2)
/-- The tokens are those. -/
def RdV (ts : List Tk) (xs : List Ev) : Prop := ts.length = xs.length ∧ ∀ (i : Nat) (h1 : i < ts.length) (h2 : i < xs.length), MtV ts[i] xs[i]
theorem Rd.v {ts : List Tk} {es : List Ex} (h : Rd ts es) : RdV ts (es.map ev) := by
  obtain ⟨h1, h2⟩ := h.at
  exact ⟨by simp [h1], fun i k1 k2 => by rw [List.getElem_map]; exact h2 i k1 (by simpa using k2)⟩
theorem RdV.free {ts : List Tk} {xs : List Ev} (h : RdV ts xs) : RdV ts (xs.map Ev.free) :=
  ⟨by simp [h.1], fun i k1 k2 => by
    rw [List.getElem_map]
    have := h.2 i k1 (by simpa using k2)
    exact ⟨this.kind, this.text, this.int, this.op, .inl rfl⟩⟩
end Gr
end Pl
end Go.Proofs.YtncdjkdpoinfaaaGreatDoor
/-
  The law's fixed text has one clause of three literals. No program in sight.
-/
namespace Go.Proofs.YtncdjkdpoinfaaaGreatDoor
namespace Pl
namespace Gr
def fixP : List UInt8 := [112, 40, 88, 41, 32, 58, 45, 32, 113, 40, 88, 44, 32, 95, 41, 44, 32, 110, 111, 116, 32, 114, 44, 32, 88, 32, 33, 61, 32, 51, 46]
def fixT : List Tk := [⟨1, [112], 0, 0, 0, 1⟩, ⟨5, [], 0, 0, 1, 2⟩, ⟨2, [88], 0, 0, 2, 3⟩, ⟨6, [], 0, 0, 3, 4⟩, ⟨9, [], 0, 0, 5, 7⟩, ⟨1, [113], 0, 0, 8, 9⟩, ⟨5, [], 0, 0, 9, 10⟩, ⟨2, [88], 0, 0, 10, 11⟩, ⟨7, [], 0, 0, 11, 12⟩, ⟨2, [95], 0, 0, 13, 14⟩, ⟨6, [], 0, 0, 14, 15⟩, ⟨7, [], 0, 0, 15, 16⟩, ⟨10, [], 0, 0, 17, 20⟩, ⟨1, [114], 0, 0, 21, 22⟩, ⟨7, [], 0, 0, 22, 23⟩, ⟨2, [88], 0, 0, 24, 25⟩, ⟨11, [], 0, 2, 26, 28⟩, ⟨3, [], 3, 0, 29, 30⟩, ⟨8, [], 0, 0, 30, 31⟩, ⟨0, [], 0, 0, 31, 31⟩]
instance tkSame : DecidableEq Tk := fun a b =>
  if h : a.kind = b.kind ∧ a.text = b.text ∧ a.int = b.int ∧ a.op = b.op ∧ a.off = b.off ∧ a.fin = b.fin then
    isTrue (by obtain ⟨h1, h2, h3, h4, h5, h6⟩ := h; cases a; cases b; simp only at h1 h2 h3 h4 h5 h6; subst h1 h2 h3 h4 h5 h6; rfl)
  else isFalse fun e => h (by subst e; exact ⟨rfl, rfl, rfl, rfl, rfl, rfl⟩)
theorem fixP_scan : scan 40 31 fixP = (fixT, (0, 0)) := by decide +kernel
theorem fixP_sc : Sc fixP 0 fixT (0, 0) := by
  have h := scan_Sc fixP 40 0 (by decide) (by decide)
  rw [List.drop_zero, show fixP.length = 31 from rfl, fixP_scan] at h
  exact h
theorem body_comma' {f : Flt} : ∀ {n : Nat} {ts : List Tk} {res : Res (List Lit)}, BodyR f n ts res → ∀ {t s : Tk} {r r1 : List Tk} {x : Lit}, ts = t :: r → n < 16 → litP f (t :: r) = .ok (x, s :: r1) → s.kind = 7 →
    ∃ res', BodyR f (n + 1) r1 res' ∧ ((∃ e, res' = .error e ∧ res = .error e) ∨ ∃ xs r2, res' = .ok (xs, r2) ∧ res = .ok (x :: xs, r2)) := by
  intro n ts res h
  induction h with
  | none n => intro t s r r1 x e; cases e
  | many n t' r' h1 h2 => intro t s r r1 x e hn; exact absurd h1 (by omega)
  | bad n t' r' e' h1 h2 => intro t s r r1 x e hn hl; cases e; rw [hl] at h2; cases h2
  | ends n t' r' x' h1 h2 => intro t s r r1 x e hn hl; cases e; rw [hl] at h2; cases h2
  | comma n t' r' x' s' r1' e' h1 h2 h3 h4 _ => intro t s r r1 x e hn hl h7; cases e; rw [hl] at h2; cases h2; exact ⟨_, h4, .inl ⟨_, rfl, rfl⟩⟩
  | commaOk n t' r' x' s' r1' xs r2 h1 h2 h3 h4 _ => intro t s r r1 x e hn hl h7; cases e; rw [hl] at h2; cases h2; exact ⟨_, h4, .inr ⟨_, _, rfl, rfl⟩⟩
  | dot n t' r' x' s' r1' h1 h2 h3 => intro t s r r1 x e hn hl h7; cases e; rw [hl] at h2; cases h2; omega
  | other n t' r' x' s' r1' h1 h2 h3 h4 => intro t s r r1 x e hn hl h7; cases e; rw [hl] at h2; cases h2; exact absurd h7 h3
theorem body_dot' {f : Flt} : ∀ {n : Nat} {ts : List Tk} {res : Res (List Lit)}, BodyR f n ts res → ∀ {t s : Tk} {r r1 : List Tk} {x : Lit}, ts = t :: r → n < 16 → litP f (t :: r) = .ok (x, s :: r1) → s.kind = 8 → res = .ok ([x], r1) := by
  intro n ts res h
  induction h with
  | none n => intro t s r r1 x e; cases e
  | many n t' r' h1 h2 => intro t s r r1 x e hn; exact absurd h1 (by omega)
  | bad n t' r' e' h1 h2 => intro t s r r1 x e hn hl; cases e; rw [hl] at h2; cases h2
  | ends n t' r' x' h1 h2 => intro t s r r1 x e hn hl; cases e; rw [hl] at h2; cases h2
  | comma n t' r' x' s' r1' e' h1 h2 h3 h4 _ => intro t s r r1 x e hn hl h7; cases e; rw [hl] at h2; cases h2; omega
  | commaOk n t' r' x' s' r1' xs r2 h1 h2 h3 h4 _ => intro t s r r1 x e hn hl h7; cases e; rw [hl] at h2; cases h2; omega
  | dot n t' r' x' s' r1' h1 h2 h3 => intro t s r r1 x e hn hl h7; cases e; rw [hl] at h2; cases h2; rfl
  | other n t' r' x' s' r1' h1 h2 h3 h4 => intro t s r r1 x e hn hl h7; cases e; rw [hl] at h2; cases h2; exact absurd h7 h4
theorem body_comma {f : Flt} {n : Nat} {t s : Tk} {r r1 : List Tk} {x : Lit} {res : Res (List Lit)} (h : BodyR f n (t :: r) res) (hn : n < 16) (hl : litP f (t :: r) = .ok (x, s :: r1)) (h7 : s.kind = 7) :
    ∃ res', BodyR f (n + 1) r1 res' ∧ ((∃ e, res' = .error e ∧ res = .error e) ∨ ∃ xs r2, res' = .ok (xs, r2) ∧ res = .ok (x :: xs, r2)) := body_comma' h rfl hn hl h7
theorem body_dot {f : Flt} {n : Nat} {t s : Tk} {r r1 : List Tk} {x : Lit} {res : Res (List Lit)} (h : BodyR f n (t :: r) res) (hn : n < 16) (hl : litP f (t :: r) = .ok (x, s :: r1)) (h8 : s.kind = 8) : res = .ok ([x], r1) := body_dot' h rfl hn hl h8
theorem fix_body {res : Res (List Lit)} (h : BodyR (0, 0) 0 [⟨1, [113], 0, 0, 8, 9⟩, ⟨5, [], 0, 0, 9, 10⟩, ⟨2, [88], 0, 0, 10, 11⟩, ⟨7, [], 0, 0, 11, 12⟩, ⟨2, [95], 0, 0, 13, 14⟩, ⟨6, [], 0, 0, 14, 15⟩, ⟨7, [], 0, 0, 15, 16⟩, ⟨10, [], 0, 0, 17, 20⟩, ⟨1, [114], 0, 0, 21, 22⟩, ⟨7, [], 0, 0, 22, 23⟩, ⟨2, [88], 0, 0, 24, 25⟩, ⟨11, [], 0, 2, 26, 28⟩, ⟨3, [], 3, 0, 29, 30⟩, ⟨8, [], 0, 0, 30, 31⟩, ⟨0, [], 0, 0, 31, 31⟩] res) : ∃ xs r, xs.length = 3 ∧ r = [⟨0, [], 0, 0, 31, 31⟩] ∧ res = .ok (xs, r) := by
  obtain ⟨r1, h1, k1⟩ := body_comma h (by decide) rfl rfl
  obtain ⟨r2, h2, k2⟩ := body_comma h1 (by decide) rfl rfl
  have k3 := body_dot h2 (by decide) rfl rfl
  rcases k2 with ⟨e, k2, _⟩ | ⟨xs, r, k2, k2'⟩
  · rw [k3] at k2; cases k2
  rw [k3] at k2
  injection k2 with k2
  injection k2 with k4 k5
  rcases k1 with ⟨e, k1, _⟩ | ⟨ys, s, k1, k1'⟩
  · rw [k2'] at k1; cases k1
  rw [k2'] at k1
  injection k1 with k1
  injection k1 with k6 k7
  exact ⟨_, _, by rw [← k6, ← k4]; rfl, by rw [← k7, ← k5], k1'⟩
theorem fix_cls {res : Res Cls} (h : ClsR (0, 0) fixT res) : ∃ c r, c.body.length = 3 ∧ r = [⟨0, [], 0, 0, 31, 31⟩] ∧ res = .ok (c, r) := by
  have ha : ∃ a, atomP (0, 0) true fixT = .ok (a, ⟨9, [], 0, 0, 5, 7⟩ :: [⟨1, [113], 0, 0, 8, 9⟩, ⟨5, [], 0, 0, 9, 10⟩, ⟨2, [88], 0, 0, 10, 11⟩, ⟨7, [], 0, 0, 11, 12⟩, ⟨2, [95], 0, 0, 13, 14⟩, ⟨6, [], 0, 0, 14, 15⟩, ⟨7, [], 0, 0, 15, 16⟩, ⟨10, [], 0, 0, 17, 20⟩, ⟨1, [114], 0, 0, 21, 22⟩, ⟨7, [], 0, 0, 22, 23⟩, ⟨2, [88], 0, 0, 24, 25⟩, ⟨11, [], 0, 2, 26, 28⟩, ⟨3, [], 3, 0, 29, 30⟩, ⟨8, [], 0, 0, 30, 31⟩, ⟨0, [], 0, 0, 31, 31⟩]) := ⟨_, rfl⟩
  obtain ⟨a, ha⟩ := ha
  cases h with
  | head e h1 => rw [ha] at h1; cases h1
  | none a' h1 => rw [ha] at h1; cases h1
  | dot a' s r h1 h2 => rw [ha] at h1; cases h1; cases h2
  | arrow a' s r e h1 h2 h3 =>
    rw [ha] at h1; cases h1
    obtain ⟨_, _, _, _, k⟩ := fix_body h3
    cases k
  | arrowOk a' s r xs r2 h1 h2 h3 =>
    rw [ha] at h1; cases h1
    obtain ⟨ys, r', k1, k2, k⟩ := fix_body h3
    cases k
    exact ⟨_, _, k1, k2, rfl⟩
  | other a' s r h1 h2 h3 => rw [ha] at h1; cases h1; exact absurd rfl h3
theorem fix_prog {res : Except Flt (List Cls)} (h : ProgR (0, 0) 0 fixT res) : ∃ c, c.body.length = 3 ∧ res = .ok [c] := by
  cases h with
  | fin _ t r h => cases h
  | many _ t r h1 h2 => exact absurd h1 (by decide)
  | bad _ t r e h1 h2 h3 => obtain ⟨_, _, _, _, k⟩ := fix_cls h3; cases k
  | more _ t r x r1 e h1 h2 h3 h4 =>
    obtain ⟨c, r', k1, k2, k⟩ := fix_cls h3
    cases k
    subst k2
    cases h4 with
    | many _ _ _ g1 g2 => cases g2
    | bad _ _ _ _ g1 => exact absurd rfl g1
    | more _ _ _ _ _ _ g1 => exact absurd rfl g1
  | moreOk _ t r x r1 xs h1 h2 h3 h4 =>
    obtain ⟨c, r', k1, k2, k⟩ := fix_cls h3
    cases k
    subst k2
    cases h4 with
    | fin _ _ _ g => exact ⟨_, k1, rfl⟩
    | moreOk _ _ _ _ _ _ g1 => exact absurd rfl g1
end Gr
end Pl
end Go.Proofs.YtncdjkdpoinfaaaGreatDoor
/-
  The parser, a step at a time. No program in sight.
-/
namespace Go.Proofs.YtncdjkdpoinfaaaGreatDoor
namespace Pl
namespace Gr
section
variable {f : Flt} {vars : Bool} {n : Nat} {t s : Tk} {r : List Tk}
theorem atomP_take (l : List Tk) : atomP f vars l = (match takeP f 1 l with | .error e => .error e | .ok (t, r) => (match restP f vars r with | .error e => .error e | .ok (as, r') => .ok (⟨t.text, as, t.off⟩, r'))) := by
  cases l with
  | nil => rfl
  | cons t r =>
    rw [atomP_rest]
    by_cases h : t.kind = 1
    · simp [takeP, h]
      cases restP f vars r <;> rfl
    · simp [takeP, h]
/-- What follows n terms. -/
def argsFrom (f : Flt) (vars : Bool) (pred : List UInt8) (off : Nat) (as : List Trm) (l : List Tk) : Res Atm :=
  match argsP f vars as.length l with
  | .error e => .error e
  | .ok (bs, r) => .ok (⟨pred, as ++ bs, off⟩, r)
variable {pred : List UInt8} {off : Nat} {as : List Trm}
theorem from_none : argsFrom f vars pred off as [] = .error f := rfl
theorem from_many (hn : as.length ≥ 8) (hv : isT vars t.kind = true) : argsFrom f vars pred off as (t :: r) = .error (22, t.off) := by
  unfold argsFrom
  cases r with
  | nil => simp only [argsP, hv, and_true]; rw [if_pos hn]
  | cons s r => simp only [argsP, hv, and_true]; rw [if_pos hn]
theorem from_bad (hv : isT vars t.kind = false) : argsFrom f vars pred off as (t :: r) = .error (ref t) := by
  unfold argsFrom
  cases r with
  | nil => simp [argsP, hv]
  | cons s r => simp [argsP, hv]
theorem from_end (hn : ¬ as.length ≥ 8) (hv : isT vars t.kind = true) : argsFrom f vars pred off as [t] = .error f := by
  unfold argsFrom
  simp only [argsP, hv, and_true, if_true]; rw [if_neg hn]
theorem from_comma (hn : ¬ as.length ≥ 8) (hv : isT vars t.kind = true) (h7 : s.kind = 7) : argsFrom f vars pred off as (t :: s :: r) = argsFrom f vars pred off (as ++ [trm t]) r := by
  unfold argsFrom
  simp only [argsP, hv, and_true, if_true, h7]
  rw [if_neg hn, List.length_append, List.length_singleton]
  cases argsP f vars (as.length + 1) r with
  | error e => rfl
  | ok x => simp
theorem from_close (hn : ¬ as.length ≥ 8) (hv : isT vars t.kind = true) (h6 : s.kind = 6) : argsFrom f vars pred off as (t :: s :: r) = .ok (⟨pred, as ++ [trm t], off⟩, r) := by
  unfold argsFrom
  simp only [argsP, hv, and_true, if_true, h6]
  rw [if_neg hn]
  simp
theorem from_other (hn : ¬ as.length ≥ 8) (hv : isT vars t.kind = true) (h7 : s.kind ≠ 7) (h6 : s.kind ≠ 6) : argsFrom f vars pred off as (t :: s :: r) = .error (ref s) := by
  unfold argsFrom
  simp only [argsP, hv, and_true, if_true, h7, h6, if_false]
  rw [if_neg hn]
theorem from_start (h5 : s.kind = 5) (hk : t.kind = 1) : atomP f vars (t :: s :: r) = argsFrom f vars t.text t.off [] r := by
  rw [atomP_rest, if_pos hk]
  simp only [restP, h5, if_true, argsFrom]
  rfl
theorem from_bare (h5 : s.kind ≠ 5) (hk : t.kind = 1) : atomP f vars (t :: s :: r) = .ok (⟨t.text, [], t.off⟩, s :: r) := by
  rw [atomP_rest, if_pos hk]
  simp [restP, h5]
theorem from_alone (hk : t.kind = 1) : atomP f vars [t] = .error f := by
  rw [atomP_rest, if_pos hk]; rfl
theorem atomP_bad (hk : t.kind ≠ 1) : atomP f vars (t :: r) = .error (ref t) := by
  rw [atomP_rest, if_neg hk]
end
theorem argsP_less {f : Flt} {vars : Bool} : ∀ (n : Nat) (ts : List Tk) (as : List Trm) (r : List Tk), argsP f vars n ts = .ok (as, r) → ∃ p, ts = p ++ r ∧ 0 < p.length
  | n, [], as, r, h => by simp [argsP] at h
  | n, [t], as, r, h => by
    simp only [argsP] at h
    split at h
    · simp at h
    · split at h <;> simp at h
  | n, t :: s :: r, as, r', h => by
    simp only [argsP] at h
    split at h
    · simp at h
    · split at h
      · split at h
        · split at h
          · simp at h
          · rename_i as' r'' h4
            simp at h
            obtain ⟨p, hp, _⟩ := argsP_less (n + 1) r as' r'' h4
            exact ⟨t :: s :: p, by rw [hp, ← h.2]; rfl, by simp⟩
        · split at h
          · simp at h; exact ⟨[t, s], by rw [← h.2]; rfl, by simp⟩
          · simp at h
      · simp at h
theorem atomP_less {f : Flt} {vars : Bool} {ts r : List Tk} {a : Atm} (h : atomP f vars ts = .ok (a, r)) : ∃ p, ts = p ++ r ∧ 0 < p.length := by
  cases ts with
  | nil => simp [atomP] at h
  | cons t u =>
    rw [atomP_rest] at h
    split at h
    · split at h
      · simp at h
      · rename_i as' r' hr
        simp at h
        cases u with
        | nil => simp [restP] at hr
        | cons s u' =>
          simp only [restP] at hr
          split at hr
          · obtain ⟨p, hp, _⟩ := argsP_less _ _ _ _ hr
            exact ⟨t :: s :: p, by rw [hp, ← h.2]; rfl, by simp⟩
          · simp at hr
            exact ⟨[t], by rw [← h.2, ← hr.2]; rfl, by simp⟩
    · simp at h
theorem argsP_few {f : Flt} {vars : Bool} : ∀ (n : Nat) (ts : List Tk) (as : List Trm) (r : List Tk), argsP f vars n ts = .ok (as, r) → as.length ≤ ts.length
  | n, [], as, r, h => by simp [argsP] at h
  | n, [t], as, r, h => by
    simp only [argsP] at h
    split at h
    · simp at h
    · split at h <;> simp at h
  | n, t :: s :: r, as, r', h => by
    simp only [argsP] at h
    split at h
    · simp at h
    · split at h
      · split at h
        · split at h
          · simp at h
          · rename_i as' r'' h4
            simp at h
            have := argsP_few (n + 1) r as' r'' h4
            rw [← h.1]; simp only [List.length_cons]; omega
        · split at h
          · simp at h; rw [← h.1]; simp
          · simp at h
      · simp at h
theorem atom_few {f : Flt} {vars : Bool} {ts r : List Tk} {a : Atm} (h : atomP f vars ts = .ok (a, r)) : a.args.length ≤ ts.length := by
  cases ts with
  | nil => simp [atomP] at h
  | cons t u =>
    rw [atomP_rest] at h
    split at h
    · split at h
      · simp at h
      · rename_i as' r' hr
        simp at h
        cases u with
        | nil => simp [restP] at hr
        | cons s u' =>
          simp only [restP] at hr
          split at hr
          · have := argsP_few _ _ _ _ hr
            rw [← h.1]; simp only [List.length_cons]; omega
          · simp at hr
            rw [← h.1]; simp [hr.1]
    · simp at h
theorem litP_less {f : Flt} {ts r : List Tk} {x : Lit} (h : litP f ts = .ok (x, r)) : ∃ p, ts = p ++ r ∧ 0 < p.length := by
  cases ts with
  | nil => simp [litP] at h
  | cons t u =>
    simp only [litP] at h
    split at h
    · split at h
      · simp at h
      · rename_i a r' ha
        simp at h
        obtain ⟨p, hp, _⟩ := atomP_less ha
        exact ⟨t :: p, by rw [hp, ← h.2]; rfl, by simp⟩
    · split at h
      · split at h
        · simp at h
        · rename_i a r' ha
          simp at h
          obtain ⟨p, hp, hl⟩ := atomP_less ha
          exact ⟨p, by rw [hp, ← h.2], hl⟩
      · split at h
        · simp at h
        · rename_i y r1 hy
          simp only [termP] at hy
          split at hy
          · simp at hy
            split at h
            · simp at h
            · rename_i o r2 ho
              split at h
              · simp at h
              · rename_i z r3 hz
                simp at h
                cases u with
                | nil => rw [← hy.2] at ho; simp [takeP] at ho
                | cons o' u1 =>
                  rw [← hy.2] at ho
                  simp only [takeP] at ho
                  split at ho
                  · simp at ho
                    cases u1 with
                    | nil => rw [← ho.2] at hz; simp [termP] at hz
                    | cons y' u2 =>
                      rw [← ho.2] at hz
                      simp only [termP] at hz
                      split at hz
                      · simp at hz
                        exact ⟨[t, o', y'], by rw [← h.2, ← hz.2]; rfl, by simp⟩
                      · simp at hz
                  · simp at ho
          · simp at hy
end Gr
end Pl
end Go.Proofs.YtncdjkdpoinfaaaGreatDoor
/-
  The terms of what the parser hands back have kinds. No program in sight.
-/
namespace Go.Proofs.YtncdjkdpoinfaaaGreatDoor
namespace Pl
namespace Gr
def TrmOk (x : Trm) : Prop := x.kind = 1 ∨ x.kind = 2 ∨ x.kind = 3 ∨ x.kind = 4
def AtmOk (a : Atm) : Prop := ∀ x ∈ a.args, TrmOk x
def LitFull (x : Lit) : Prop := LitOk x ∧ AtmOk x.atom ∧ (x.kind = 3 → TrmOk x.left ∧ TrmOk x.right)
def ClsOk (c : Cls) : Prop := AtmOk c.head ∧ ∀ l ∈ c.body, LitFull l
theorem trm_ok (t : Tk) : TrmOk (trm t) := by
  unfold trm TrmOk
  repeat' split
  all_goals simp
theorem args_trms {f : Flt} {vars : Bool} : ∀ (n : Nat) (ts : List Tk) (as : List Trm) (r : List Tk), argsP f vars n ts = .ok (as, r) → ∀ x ∈ as, TrmOk x
  | n, [], as, r, h => by simp [argsP] at h
  | n, [t], as, r, h => by
    simp only [argsP] at h
    split at h
    · simp at h
    · split at h <;> simp at h
  | n, t :: s :: r, as, r', h => by
    simp only [argsP] at h
    split at h
    · simp at h
    · split at h
      · split at h
        · split at h
          · simp at h
          · rename_i as' r'' h4
            simp at h
            have ih := args_trms (n + 1) r as' r'' h4
            intro x hx
            rw [← h.1] at hx
            rcases List.mem_cons.1 hx with rfl | hx
            · exact trm_ok t
            · exact ih x hx
        · split at h
          · simp at h
            intro x hx
            rw [← h.1] at hx
            obtain rfl := List.mem_singleton.1 hx
            exact trm_ok t
          · simp at h
      · simp at h
theorem atom_trms {f : Flt} {vars : Bool} {ts r : List Tk} {a : Atm} (h : atomP f vars ts = .ok (a, r)) : AtmOk a := by
  cases ts with
  | nil => simp [atomP] at h
  | cons t u =>
    rw [atomP_rest] at h
    split at h
    · split at h
      · simp at h
      · rename_i as' r' hr
        simp at h
        cases u with
        | nil => simp [restP] at hr
        | cons s u' =>
          simp only [restP] at hr
          split at hr
          · have := args_trms _ _ _ _ hr
            rw [← h.1]; exact this
          · simp at hr
            rw [← h.1]
            intro x hx
            simp [hr.1] at hx
    · simp at h
theorem lit_full {f : Flt} {ts r : List Tk} {x : Lit} (h : litP f ts = .ok (x, r)) : LitFull x := by
  refine ⟨litP_ok h, ?_⟩
  cases ts with
  | nil => simp [litP] at h
  | cons t u =>
    simp only [litP] at h
    split at h
    · split at h
      · simp at h
      · rename_i a r' ha
        simp at h; rw [← h.1]; exact ⟨atom_trms ha, fun h => by simp at h⟩
    · split at h
      · split at h
        · simp at h
        · rename_i a r' ha
          simp at h; rw [← h.1]; exact ⟨atom_trms ha, fun h => by simp at h⟩
      · split at h
        · simp at h
        · rename_i y r1 hy
          split at h
          · simp at h
          · rename_i o r2 ho
            split at h
            · simp at h
            · rename_i z r3 hz
              simp at h; rw [← h.1]
              have tm : ∀ {us : List Tk} {x : Trm} {r : List Tk}, termP f true us = .ok (x, r) → TrmOk x := by
                intro us x r hh
                cases us with
                | nil => simp [termP] at hh
                | cons t' u' =>
                  simp only [termP] at hh
                  split at hh
                  · simp at hh; rw [← hh.1]; exact trm_ok t'
                  · simp at hh
              exact ⟨fun x hx => by simp at hx, fun _ => ⟨tm hy, tm hz⟩⟩
theorem body_full {f : Flt} : ∀ {n : Nat} {ts : List Tk} {res : Res (List Lit)}, BodyR f n ts res → ∀ xs r, res = .ok (xs, r) → ∀ x ∈ xs, LitFull x := by
  intro n ts res h
  induction h with
  | none n => intro xs r h; simp at h
  | many n t r h1 h2 => intro xs r h; simp at h
  | bad n t r e' h1 h2 => intro xs r h; simp at h
  | ends n t r x h1 h2 => intro xs r h; simp at h
  | comma n t r x s r1 e' h1 h2 h3 h4 ih => intro xs r h; simp at h
  | commaOk n t r x s r1 xs' r2 h1 h2 h3 h4 ih =>
    intro xs r h y hy; simp at h; rw [← h.1] at hy
    rcases List.mem_cons.1 hy with rfl | hy
    · exact lit_full h2
    · exact ih _ _ rfl y hy
  | dot n t r x s r1 h1 h2 h3 =>
    intro xs r h y hy; simp at h; rw [← h.1] at hy
    obtain rfl := List.mem_singleton.1 hy
    exact lit_full h2
  | other n t r x s r1 h1 h2 h3 => intro xs r h; simp at h
theorem cls_full {f : Flt} {ts : List Tk} {res : Res Cls} (h : ClsR f ts res) : ∀ x r, res = .ok (x, r) → ClsOk x := by
  cases h with
  | head e' h1 => intro x r h; simp at h
  | none a h1 => intro x r h; simp at h
  | dot a s r2 h1 h2 => intro x r h; simp at h; rw [← h.1]; exact ⟨atom_trms h1, fun l hl => by simp at hl⟩
  | arrow a s r2 e' h1 h2 h3 => intro x r h; simp at h
  | arrowOk a s r2 xs r3 h1 h2 h3 => intro x r h; simp at h; rw [← h.1]; exact ⟨atom_trms h1, body_full h3 _ _ rfl⟩
  | other a s r2 h1 h2 h3 => intro x r h; simp at h
theorem prog_full {f : Flt} : ∀ {c : Nat} {ts : List Tk} {res : Except Flt (List Cls)}, ProgR f c ts res → ∀ xs, res = .ok xs → ∀ x ∈ xs, ClsOk x := by
  intro c ts res h
  induction h with
  | none c => intro xs h; simp at h
  | fin c t r h => intro xs h; simp at h; subst h; intro x hx; simp at hx
  | many c t r h1 h2 => intro xs h; simp at h
  | bad c t r e h1 h2 h3 => intro xs h; simp at h
  | more c t r x r1 e h1 h2 h3 h4 ih => intro xs h; simp at h
  | moreOk c t r x r1 xs' h1 h2 h3 h4 ih =>
    intro xs h; simp at h; subst h
    intro y hy
    rcases List.mem_cons.1 hy with rfl | hy
    · exact cls_full h3 _ _ rfl
    · exact ih _ rfl y hy
theorem facts_full {f : Flt} : ∀ {c : Nat} {ts : List Tk} {res : Except Flt (List Atm)}, FactsR f c ts res → ∀ xs, res = .ok xs → ∀ x ∈ xs, AtmOk x := by
  intro c ts res h
  induction h with
  | none c => intro xs h; simp at h
  | fin c t r h => intro xs h; simp at h; subst h; intro x hx; simp at hx
  | many c t r h1 h2 => intro xs h; simp at h
  | bad c t r e h1 h2 h3 => intro xs h; simp at h
  | undot c t r x r1 e h1 h2 h3 h4 => intro xs h; simp at h
  | more c t r x r1 s r2 e h1 h2 h3 h4 h5 ih => intro xs h; simp at h
  | moreOk c t r x r1 s r2 xs' h1 h2 h3 h4 h5 ih =>
    intro xs h; simp at h; subst h
    intro y hy
    rcases List.mem_cons.1 hy with rfl | hy
    · exact atom_trms h3
    · exact ih _ rfl y hy
theorem query_full {f : Flt} {ts : List Tk} {res : Except Flt (List Lit)} (h : QueryR f ts res) : ∀ xs, res = .ok xs → ∀ x ∈ xs, LitFull x := by
  cases h with
  | bad e h => intro xs h; simp at h
  | open_ ys r e h1 h2 => intro xs h; simp at h
  | ok ys r s r2 h1 h2 => intro xs h; simp at h; subst h; exact body_full h1 _ _ rfl
theorem fact_full {f : Flt} {ts : List Tk} {a : Atm} (h : factP f ts = .ok a) : AtmOk a := by
  unfold factP at h
  cases ha : atomP f false ts with
  | error e => rw [ha] at h; simp at h
  | ok x =>
    obtain ⟨b, r⟩ := x
    rw [ha] at h
    simp only at h
    cases h0 : takeP f 0 r with
    | error e => rw [h0] at h; simp at h
    | ok y => rw [h0] at h; simp at h; rw [← h]; exact atom_trms ha
end Gr
end Pl
end Go.Proofs.YtncdjkdpoinfaaaGreatDoor
/-
  A fact without places, and tokens whose ends are struck. No program in sight.
-/
namespace Go.Proofs.YtncdjkdpoinfaaaGreatDoor
namespace Pl
namespace Gr
def Trm.zero (x : Trm) : Trm := { x with off := 0 }
/-- The atom that the law makes of a fact. -/
def zeroAtm (x : Atm) : Atm := ⟨x.pred, x.args.map Trm.zero, 0⟩
theorem zero_ok {x : Atm} (h : AtmOk x) : AtmOk (zeroAtm x) := by
  intro y hy
  obtain ⟨z, hz, rfl⟩ := List.mem_map.1 hy
  exact h z hz
def Ev.bare (x : Ev) : Ev := { x with off := 0, fin := -1 }
theorem bare_more (xs : List Trm) : (flatMore (xs.map Trm.zero)).map (fun e => (ev e).bare) = (flatMore xs).map (fun e => (ev e).bare) := by
  induction xs with
  | nil => rfl
  | cons x xs ih => simp only [List.map_cons, flatMore, ih]; rfl
theorem bare_atom (x : Atm) : (flatAtom (zeroAtm x)).map (fun e => (ev e).bare) = (flatAtom x).map (fun e => (ev e).bare) := by
  unfold flatAtom zeroAtm
  simp only [List.map_cons]
  cases hx : x.args with
  | nil => rfl
  | cons y ys =>
    simp only [List.map_cons, flatArgs, List.map_append, List.cons_append, bare_more]
    rfl
theorem rd_free {ts : List Tk} {xs ys : List Ev} (h : RdV ts xs) (hb : ys.map Ev.bare = xs.map Ev.bare) : RdV ts (ys.map Ev.free) := by
  have hl : ys.length = xs.length := by simpa using congrArg List.length hb
  refine ⟨by rw [List.length_map, hl]; exact h.1, fun i k1 k2 => ?_⟩
  have ky : i < ys.length := by simpa using k2
  have kx : i < xs.length := by omega
  have m := h.2 i k1 kx
  have e : ys[i].bare = xs[i].bare := by
    have := congrArg (fun l => l[i]?) hb
    simpa [List.getElem?_map, ky, kx] using this
  have e1 : ys[i].kind = xs[i].kind := by have := congrArg Ev.kind e; simpa [Ev.bare] using this
  have e2 : ys[i].text = xs[i].text := by have := congrArg Ev.text e; simpa [Ev.bare] using this
  have e3 : ys[i].int = xs[i].int := by have := congrArg Ev.int e; simpa [Ev.bare] using this
  have e4 : ys[i].op = xs[i].op := by have := congrArg Ev.op e; simpa [Ev.bare] using this
  rw [List.getElem_map]
  exact ⟨m.kind.trans e1.symm, m.text.trans e2.symm, m.int.trans e3.symm, m.op.trans e4.symm, .inl rfl⟩
/-- The tokens of one fact, without places. -/
theorem fact_free {f : Flt} {ts : List Tk} {x : Atm} (h : Rd ts (flatAtom x ++ [mkE 0])) : RdV ts (((flatAtom (zeroAtm x) ++ [mkE 0]).map ev).map Ev.free) :=
  rd_free h.v (by simp only [List.map_map, List.map_append]; exact congrArg (· ++ _) (bare_atom x))
end Gr
end Pl
end Go.Proofs.YtncdjkdpoinfaaaGreatDoor
