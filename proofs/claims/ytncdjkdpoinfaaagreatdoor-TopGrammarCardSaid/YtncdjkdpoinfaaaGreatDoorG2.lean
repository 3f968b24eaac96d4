/-
  Texts of this seat, one behind the other: P8, P9. Conditions: those that each of them states.
-/
import Derived.Test.YtncdjkdpoinfaaaGreatDoorG1
/-
  A parser of tokens and the automaton that judges them, as plain functions. No program in sight. (Tk: the tokens of wip/T P1; here a copy of its shape, to be struck where that text is imported.)
-/
namespace Go.Proofs.YtncdjkdpoinfaaaGreatDoor
namespace Pl
namespace Gr
/-- A fault: its code, its place. -/
abbrev Flt := Nat × Nat
def ref (t : Tk) : Flt := (if t.kind = 0 then 21 else 20, t.off)
def isT (vars : Bool) (k : Nat) : Bool := decide (k = 1) || decide (k = 3) || decide (k = 4) || (decide (k = 2) && vars)

/-! ### The automaton -/
def step (st k : Nat) (q : Bool) : Option Nat :=
  match st with
  | 0 => if k = 1 then some 1 else if k = 0 then some 99 else none
  | 1 => if k = 5 then some 2 else if k = 8 then some 0 else if k = 9 then some 5 else none
  | 2 => if isT true k then some 3 else none
  | 7 => if isT true k then some 8 else none
  | 3 => if k = 7 then some 2 else if k = 6 then some 4 else none
  | 4 => if k = 8 then some 0 else if k = 9 then some 5 else none
  | 5 => if k = 2 ∨ k = 3 ∨ k = 4 then some 12 else if k = 1 then some 6 else if k = 10 then some 10 else none
  | 6 => if k = 11 then some 13 else if k = 5 then some 7 else if k = 7 then some 5 else if k = 8 then some (if q then 20 else 0) else none
  | 8 => if k = 7 then some 7 else if k = 6 then some 9 else none
  | 9 => if k = 7 then some 5 else if k = 8 then some (if q then 20 else 0) else none
  | 14 => if k = 7 then some 5 else if k = 8 then some (if q then 20 else 0) else none
  | 10 => if k = 1 then some 11 else none
  | 11 => if k = 5 then some 7 else if k = 7 then some 5 else if k = 8 then some (if q then 20 else 0) else none
  | 12 => if k = 11 then some 13 else none
  | 13 => if isT true k then some 14 else none
  | 20 => if k = 0 then some 99 else none
  | 30 => if k = 1 then some 31 else if k = 0 then some 99 else none
  | 31 => if k = 5 then some 32 else if k = 8 then some 30 else none
  | 32 => if isT false k then some 33 else none
  | 42 => if isT false k then some 43 else none
  | 33 => if k = 7 then some 32 else if k = 6 then some 34 else none
  | 34 => if k = 8 then some 30 else none
  | 40 => if k = 1 then some 41 else none
  | 41 => if k = 5 then some 42 else if k = 0 then some 99 else none
  | 43 => if k = 7 then some 42 else if k = 6 then some 44 else none
  | 44 => if k = 0 then some 99 else none
  | _ => none
def J (f : Flt) (q : Bool) : Nat → Nat → Nat → Nat → List Tk → Flt
  | _, _, _, _, [] => f
  | st, c, l, n, t :: r =>
    match step st t.kind q with
    | none => ref t
    | some to =>
      if to = 99 then (0, 0)
      else if st = 0 ∨ st = 30 then (if (st = 0 ∧ c + 1 > 512) ∨ (st = 30 ∧ c + 1 > 4096) then (24, t.off) else J f q to (c + 1) 0 0 r)
      else if st = 5 then (if l + 1 > 16 then (23, t.off) else J f q to c (l + 1) 0 r)
      else if st = 2 ∨ st = 7 ∨ st = 32 ∨ st = 42 then (if n + 1 > 8 then (22, t.off) else J f q to c l (n + 1) r)
      else J f q to c l n r

/-! ### The parser -/
structure Trm where
  kind : Nat
  int : Int
  text : List UInt8
  off : Nat
def Trm.none : Trm := ⟨0, 0, [], 0⟩
def trm (t : Tk) : Trm := if t.kind = 3 then ⟨1, t.int, [], t.off⟩ else if t.kind = 1 then ⟨2, 0, t.text, t.off⟩ else if t.kind = 4 then ⟨3, 0, t.text, t.off⟩ else ⟨4, 0, t.text, t.off⟩
structure Atm where
  pred : List UInt8
  args : List Trm
  off : Nat
structure Lit where
  kind : Nat
  atom : Atm
  op : Nat
  left : Trm
  right : Trm
  off : Nat
structure Cls where
  head : Atm
  body : List Lit
abbrev Res (α : Type) := Except Flt (α × List Tk)
def termP (f : Flt) (vars : Bool) : List Tk → Res Trm
  | [] => .error f
  | t :: r => if isT vars t.kind then .ok (trm t, r) else .error (ref t)
def takeP (f : Flt) (kind : Nat) : List Tk → Res Tk
  | [] => .error f
  | t :: r => if t.kind = kind then .ok (t, if kind = 0 then t :: r else r) else .error (ref t)
/-- Terms up to their bracket; n have come. -/
def argsP (f : Flt) (vars : Bool) : Nat → List Tk → Res (List Trm)
  | _, [] => .error f
  | n, [t] => if n ≥ 8 ∧ isT vars t.kind then .error (22, t.off) else if isT vars t.kind then .error f else .error (ref t)
  | n, t :: s :: r =>
    if n ≥ 8 ∧ isT vars t.kind then .error (22, t.off)
    else if isT vars t.kind then
      if s.kind = 7 then (match argsP f vars (n + 1) r with | .error e => .error e | .ok (as, r') => .ok (trm t :: as, r'))
      else if s.kind = 6 then .ok ([trm t], r)
      else .error (ref s)
    else .error (ref t)
def atomP (f : Flt) (vars : Bool) : List Tk → Res Atm
  | [] => .error f
  | t :: r =>
    if t.kind = 1 then
      match r with
      | [] => .error f
      | s :: r' => if s.kind = 5 then (match argsP f vars 0 r' with | .error e => .error e | .ok (as, r'') => .ok (⟨t.text, as, t.off⟩, r'')) else .ok (⟨t.text, [], t.off⟩, s :: r')
    else .error (ref t)
def hdOp : List Tk → Bool
  | [] => false
  | s :: _ => decide (s.kind = 11)
def litP (f : Flt) : List Tk → Res Lit
  | [] => .error f
  | t :: r =>
    if t.kind = 10 then (match atomP f true r with | .error e => .error e | .ok (a, r') => .ok (⟨2, a, 0, .none, .none, t.off⟩, r'))
    else if t.kind = 1 ∧ hdOp r = false then (match atomP f true (t :: r) with | .error e => .error e | .ok (a, r') => .ok (⟨1, a, 0, .none, .none, t.off⟩, r'))
    else match termP f true (t :: r) with
      | .error e => .error e
      | .ok (x, r1) => match takeP f 11 r1 with
        | .error e => .error e
        | .ok (o, r2) => match termP f true r2 with
          | .error e => .error e
          | .ok (y, r3) => .ok (⟨3, ⟨[], [], 0⟩, o.op, x, y, t.off⟩, r3)
/-- Literals up to their dot; n have come. -/
inductive BodyR (f : Flt) : Nat → List Tk → Res (List Lit) → Prop
  | none (n : Nat) : BodyR f n [] (.error f)
  | many (n : Nat) (t : Tk) (r : List Tk) : n ≥ 16 → (t.kind = 10 ∨ isT true t.kind = true) → BodyR f n (t :: r) (.error (23, t.off))
  | bad (n : Nat) (t : Tk) (r : List Tk) (e : Flt) : ¬ (n ≥ 16 ∧ (t.kind = 10 ∨ isT true t.kind = true)) → litP f (t :: r) = .error e → BodyR f n (t :: r) (.error e)
  | ends (n : Nat) (t : Tk) (r : List Tk) (x : Lit) : ¬ (n ≥ 16 ∧ (t.kind = 10 ∨ isT true t.kind = true)) → litP f (t :: r) = .ok (x, []) → BodyR f n (t :: r) (.error f)
  | comma (n : Nat) (t : Tk) (r : List Tk) (x : Lit) (s : Tk) (r1 : List Tk) (e : Flt) : ¬ (n ≥ 16 ∧ (t.kind = 10 ∨ isT true t.kind = true)) → litP f (t :: r) = .ok (x, s :: r1) → s.kind = 7 → BodyR f (n + 1) r1 (.error e) → BodyR f n (t :: r) (.error e)
  | commaOk (n : Nat) (t : Tk) (r : List Tk) (x : Lit) (s : Tk) (r1 : List Tk) (xs : List Lit) (r2 : List Tk) : ¬ (n ≥ 16 ∧ (t.kind = 10 ∨ isT true t.kind = true)) → litP f (t :: r) = .ok (x, s :: r1) → s.kind = 7 → BodyR f (n + 1) r1 (.ok (xs, r2)) → BodyR f n (t :: r) (.ok (x :: xs, r2))
  | dot (n : Nat) (t : Tk) (r : List Tk) (x : Lit) (s : Tk) (r1 : List Tk) : ¬ (n ≥ 16 ∧ (t.kind = 10 ∨ isT true t.kind = true)) → litP f (t :: r) = .ok (x, s :: r1) → s.kind = 8 → BodyR f n (t :: r) (.ok ([x], r1))
  | other (n : Nat) (t : Tk) (r : List Tk) (x : Lit) (s : Tk) (r1 : List Tk) : ¬ (n ≥ 16 ∧ (t.kind = 10 ∨ isT true t.kind = true)) → litP f (t :: r) = .ok (x, s :: r1) → s.kind ≠ 7 → s.kind ≠ 8 → BodyR f n (t :: r) (.error (ref s))

/-! ### What the automaton says of the parser's pieces -/
/-- The terms of an atom: from state s (2, 7, 32 or 42). -/
theorem args_err {f : Flt} {q vars : Bool} {s c l : Nat} (hs : (s = 2 ∧ vars = true) ∨ (s = 7 ∧ vars = true) ∨ (s = 32 ∧ vars = false) ∨ (s = 42 ∧ vars = false)) :
    ∀ (n : Nat) (ts : List Tk) (e : Flt), argsP f vars n ts = .error e → J f q s c l n ts = e
  | n, [], e, h => by simp [argsP] at h; simp [J, h]
  | n, [t], e, h => by
    simp only [argsP] at h
    rcases hs with ⟨rfl, rfl⟩ | ⟨rfl, rfl⟩ | ⟨rfl, rfl⟩ | ⟨rfl, rfl⟩ <;>
    · simp only [J, step]
      split at h
      · rename_i h1; simp [h1.2] at h ⊢; rw [if_pos (by omega)]; exact h
      · rename_i h1
        split at h
        · rename_i h2; simp [h2] at h h1 ⊢; rw [if_neg (by omega)]; exact h
        · rename_i h2; simp [h2] at h ⊢; exact h
  | n, t :: u :: r, e, h => by
    simp only [argsP] at h
    have ih := args_err hs (n + 1) r (q := q) (c := c) (l := l) (f := f)
    rcases hs with ⟨rfl, rfl⟩ | ⟨rfl, rfl⟩ | ⟨rfl, rfl⟩ | ⟨rfl, rfl⟩ <;>
    · unfold J
      simp only [step]
      split at h
      · rename_i h1; simp [h1.2] at h ⊢; rw [if_pos (by omega)]; exact h
      · rename_i h1
        split at h
        · rename_i h2
          simp [h2] at h1 ⊢
          rw [if_neg (by omega)]
          unfold J
          simp only [step]
          split at h
          · rename_i h3
            simp [h3]
            split at h
            · rename_i e' h4; simp at h; subst h; exact ih _ h4
            · simp at h
          · rename_i h3
            split at h
            · simp at h
            · rename_i h4; simp [h3, h4] at h ⊢; exact h
        · rename_i h2; simp [h2] at h ⊢; exact h
theorem args_ok {f : Flt} {q vars : Bool} {s c l : Nat} (hs : (s = 2 ∧ vars = true) ∨ (s = 7 ∧ vars = true) ∨ (s = 32 ∧ vars = false) ∨ (s = 42 ∧ vars = false)) :
    ∀ (n : Nat) (ts : List Tk) (as : List Trm) (r' : List Tk), argsP f vars n ts = .ok (as, r') → J f q s c l n ts = J f q (s + 2) c l (n + as.length) r'
  | n, [], as, r', h => by simp [argsP] at h
  | n, [t], as, r', h => by
    simp only [argsP] at h
    split at h
    · simp at h
    · split at h <;> simp at h
  | n, t :: u :: r, as, r', h => by
    simp only [argsP] at h
    have ih := args_ok hs (n + 1) r (q := q) (c := c) (l := l) (f := f)
    rcases hs with ⟨rfl, rfl⟩ | ⟨rfl, rfl⟩ | ⟨rfl, rfl⟩ | ⟨rfl, rfl⟩ <;>
    · conv => lhs; unfold J
      simp only [step]
      split at h
      · simp at h
      · rename_i h1
        split at h
        · rename_i h2
          simp [h2] at h1 ⊢
          rw [if_neg (by omega)]
          conv => lhs; unfold J
          simp only [step]
          split at h
          · rename_i h3
            simp [h3]
            split at h
            · simp at h
            · rename_i as' r'' h4
              simp at h
              obtain ⟨rfl, rfl⟩ := h
              rw [ih _ _ h4]
              simp [Nat.add_assoc, Nat.add_comm 1]
          · rename_i h3
            split at h
            · rename_i h4
              simp at h
              obtain ⟨rfl, rfl⟩ := h
              simp [h4]
            · simp at h
        · simp at h
/-- Behind a dot, a bracket or a test the number of terms does not count, nor, ahead of a clause, that of literals. -/
theorem J0 {f : Flt} {q : Bool} {c l n l' n' : Nat} (ts : List Tk) : J f q 0 c l n ts = J f q 0 c l' n' ts := by
  cases ts with
  | nil => simp [J]
  | cons t r => simp [J]
theorem J30 {f : Flt} {q : Bool} {c l n l' n' : Nat} (ts : List Tk) : J f q 30 c l n ts = J f q 30 c l' n' ts := by
  cases ts with
  | nil => simp [J]
  | cons t r => simp [J]
theorem J5 {f : Flt} {q : Bool} {c l n n' : Nat} (ts : List Tk) : J f q 5 c l n ts = J f q 5 c l n' ts := by
  cases ts with
  | nil => simp [J]
  | cons t r => simp [J]
theorem J20 {f : Flt} {q : Bool} {c l n c' l' n' : Nat} (ts : List Tk) : J f q 20 c l n ts = J f q 20 c' l' n' ts := by
  cases ts with
  | nil => simp [J]
  | cons t r =>
    simp only [J, step]
    by_cases h : t.kind = 0 <;> simp [h]
theorem Jdot {f : Flt} {q : Bool} {c l n l' n' : Nat} (ts : List Tk) : J f q (if q then 20 else 0) c l n ts = J f q (if q then 20 else 0) c l' n' ts := by
  cases q
  · exact J0 ts
  · exact J20 ts
theorem J9 {f : Flt} {q : Bool} {c l n n' : Nat} (ts : List Tk) : J f q 9 c l n ts = J f q 9 c l n' ts := by
  cases ts with
  | nil => simp [J]
  | cons t r =>
    simp only [J, step]
    by_cases h7 : t.kind = 7
    · simp [h7]; exact J5 r
    · by_cases h8 : t.kind = 8
      · cases q <;> simp [h8]
        · exact J0 r
        · exact J20 r
      · simp [h7, h8]
theorem J4 {f : Flt} {q : Bool} {c l n n' : Nat} (ts : List Tk) : J f q 4 c l n ts = J f q 4 c l n' ts := by
  cases ts with
  | nil => simp [J]
  | cons t r =>
    simp only [J, step]
    by_cases h8 : t.kind = 8
    · simp [h8]; exact J0 r
    · by_cases h9 : t.kind = 9
      · simp [h9]; exact J5 r
      · simp [h8, h9]
theorem J34 {f : Flt} {q : Bool} {c l n n' : Nat} (ts : List Tk) : J f q 34 c l n ts = J f q 34 c l n' ts := by
  cases ts with
  | nil => simp [J]
  | cons t r =>
    simp only [J, step]
    by_cases h8 : t.kind = 8
    · simp [h8]; exact J30 r
    · simp [h8]
theorem J44 {f : Flt} {q : Bool} {c l n n' : Nat} (ts : List Tk) : J f q 44 c l n ts = J f q 44 c l n' ts := by
  cases ts with
  | nil => simp [J]
  | cons t r =>
    simp only [J, step]
    by_cases h8 : t.kind = 0 <;> simp [h8]
/-- A test's end is an atom's. -/
theorem J14 {f : Flt} {q : Bool} {c l n : Nat} (ts : List Tk) : J f q 14 c l n ts = J f q 9 c l n ts := by
  cases ts with
  | nil => simp [J]
  | cons t r => simp [J, step]
/-- What stands behind an atom's name: its bracket, or what is no bracket. -/
def restP (f : Flt) (vars : Bool) : List Tk → Res (List Trm)
  | [] => .error f
  | s :: r' => if s.kind = 5 then argsP f vars 0 r' else .ok ([], s :: r')
/-- The state behind an atom's name, that of its terms, that behind it. -/
inductive At : Nat → Nat → Nat → Bool → Prop
  | head : At 1 2 4 true
  | neg : At 11 7 9 true
  | pos : At 6 7 9 true
  | facts : At 31 32 34 false
  | fact : At 41 42 44 false
theorem args_some {f : Flt} {vars : Bool} : ∀ (n : Nat) (ts : List Tk) (as : List Trm) (r : List Tk), argsP f vars n ts = .ok (as, r) → as ≠ []
  | _, [], _, _, h => by simp [argsP] at h
  | n, [t], as, r', h => by
    simp only [argsP] at h
    split at h
    · simp at h
    · split at h <;> simp at h
  | n, t :: u :: r, as, r', h => by
    simp only [argsP] at h
    split at h
    · simp at h
    · split at h
      · split at h
        · split at h
          · simp at h
          · simp at h; rw [← h.1]; simp
        · split at h
          · simp at h; rw [← h.1]; simp
          · simp at h
      · simp at h
theorem rest_err {f : Flt} {q vars : Bool} {σ s τ c l : Nat} (ha : At σ s τ vars) {ts : List Tk} {e : Flt} (h : restP f vars ts = .error e) : J f q σ c l 0 ts = e := by
  cases ts with
  | nil => simp [restP] at h; simp [J, h]
  | cons t r =>
    simp only [restP] at h
    split at h
    · rename_i h5
      cases ha <;>
      · simp only [J, step, h5]
        simp
        exact args_err (by simp) 0 r e h
    · simp at h
theorem rest_ok {f : Flt} {q vars : Bool} {σ s τ c l : Nat} (ha : At σ s τ vars) {ts r : List Tk} {as : List Trm} (h : restP f vars ts = .ok (as, r)) (h6 : σ = 6 → hdOp ts = false) : J f q σ c l 0 ts = J f q τ c l 0 r := by
  cases ts with
  | nil => simp [restP] at h
  | cons t u =>
    simp only [restP] at h
    split at h
    · rename_i h5
      cases ha with
      | head =>
        simp only [J, step, h5]
        simp
        rw [args_ok (by simp) 0 u as r h, J4]
      | neg =>
        simp only [J, step, h5]
        simp
        rw [args_ok (by simp) 0 u as r h, J9]
      | pos =>
        simp only [J, step, h5]
        simp
        rw [args_ok (by simp) 0 u as r h, J9]
      | facts =>
        simp only [J, step, h5]
        simp
        rw [args_ok (by simp) 0 u as r h, J34]
      | fact =>
        simp only [J, step, h5]
        simp
        rw [args_ok (by simp) 0 u as r h, J44]
    · rename_i h5
      simp at h
      obtain ⟨rfl, rfl⟩ := h
      cases ha with
      | head => simp [J, step, h5]
      | neg => simp [J, step, h5]
      | pos =>
        have h11 := h6 rfl
        simp only [hdOp, decide_eq_false_iff_not] at h11
        simp [J, step, h5, h11]
      | facts => simp [J, step, h5]
      | fact => simp [J, step, h5]
theorem atomP_rest (f : Flt) (vars : Bool) (t : Tk) (r : List Tk) : atomP f vars (t :: r) = if t.kind = 1 then (match restP f vars r with | .error e => .error e | .ok (as, r') => .ok (⟨t.text, as, t.off⟩, r')) else .error (ref t) := by
  simp only [atomP]
  by_cases h : t.kind = 1
  · simp only [h, if_true]
    cases r with
    | nil => simp [restP]
    | cons s r' =>
      simp only [restP]
      by_cases h5 : s.kind = 5 <;> simp [h5]
  · simp [h]
/-- A literal, where there may be one more. -/
theorem lit_err {f : Flt} {q : Bool} {c l n : Nat} {t : Tk} {r : List Tk} {e : Flt} (hb : ¬ (l ≥ 16 ∧ (t.kind = 10 ∨ isT true t.kind = true))) (h : litP f (t :: r) = .error e) : J f q 5 c l n (t :: r) = e := by
  simp only [litP] at h
  by_cases h10 : t.kind = 10
  · have hl : ¬ 16 < l + 1 := by intro hx; exact hb ⟨by omega, .inl h10⟩
    simp only [h10, if_true] at h
    simp only [J, step, h10]
    simp [hl]
    cases r with
    | nil => simp [atomP] at h; simp [J, h]
    | cons s r' =>
      rw [atomP_rest] at h
      by_cases h1 : s.kind = 1
      · simp only [h1, if_true] at h
        simp only [J, step, h1]
        simp
        cases hr : restP f true r' with
        | error e' => rw [hr] at h; simp at h; subst h; exact rest_err .neg hr
        | ok x => rw [hr] at h; simp at h
      · simp [h1] at h
        simp [J, step, h1, h]
  · simp only [h10, if_false] at h
    by_cases h1 : t.kind = 1
    · have hl : ¬ 16 < l + 1 := by intro hx; exact hb ⟨by omega, .inr (by simp [isT, h1])⟩
      simp only [J, step, h1]
      simp [hl]
      cases ho : hdOp r with
      | false =>
        simp only [h1, ho, true_and, if_true] at h
        rw [atomP_rest] at h
        simp only [h1, if_true] at h
        cases hr : restP f true r with
        | error e' => rw [hr] at h; simp at h; subst h; exact rest_err .pos hr
        | ok x => rw [hr] at h; simp at h
      | true =>
        simp only [h1, ho, true_and] at h
        have ht1 : isT true t.kind = true := by simp [isT, h1]
        simp only [termP, ht1, if_true] at h
        simp at h
        cases r with
        | nil => simp [hdOp] at ho
        | cons s r' =>
          simp only [hdOp, decide_eq_true_eq] at ho
          simp only [takeP, ho] at h
          simp at h
          simp only [J, step, ho]
          simp
          cases r' with
          | nil => simp at h; simp [J, h]
          | cons u r2 =>
            simp only at h
            by_cases hu : isT true u.kind = true
            · simp [hu] at h
            · simp [hu] at h
              simp [J, step, hu, h]
    · simp only [h1, false_and, if_false] at h
      by_cases ht : isT true t.kind = true
      · have hl : ¬ 16 < l + 1 := by intro hx; exact hb ⟨by omega, .inr ht⟩
        have hk : t.kind = 2 ∨ t.kind = 3 ∨ t.kind = 4 := by
          simp [isT, h1] at ht
          omega
        simp only [J, step]
        rw [if_pos hk]
        simp [hl]
        simp only [termP, ht, if_true] at h
        cases r with
        | nil => simp [takeP] at h; simp [J, h]
        | cons s r' =>
          simp only [takeP] at h
          by_cases ho : s.kind = 11
          · simp [ho] at h
            simp only [J, step, ho]
            simp
            cases r' with
            | nil => simp at h; simp [J, h]
            | cons u r2 =>
              simp only at h
              by_cases hu : isT true u.kind = true
              · simp [hu] at h
              · simp [hu] at h
                simp [J, step, hu, h]
          · simp [ho] at h
            simp [J, step, ho, h]
      · simp [termP, ht] at h
        have hk : ¬ (t.kind = 2 ∨ t.kind = 3 ∨ t.kind = 4) := by
          simp [isT, h1] at ht
          omega
        simp only [J, step]
        rw [if_neg hk]
        simp [h1, h10, h]
theorem lit_ok {f : Flt} {q : Bool} {c l n : Nat} {t : Tk} {r : List Tk} {x : Lit} {r2 : List Tk} (hb : ¬ (l ≥ 16 ∧ (t.kind = 10 ∨ isT true t.kind = true))) (h : litP f (t :: r) = .ok (x, r2)) : J f q 5 c l n (t :: r) = J f q 9 c (l + 1) 0 r2 := by
  simp only [litP] at h
  by_cases h10 : t.kind = 10
  · have hl : ¬ 16 < l + 1 := by intro hx; exact hb ⟨by omega, .inl h10⟩
    simp only [h10, if_true] at h
    conv => lhs; unfold J
    simp only [step, h10]
    simp [hl]
    cases r with
    | nil => simp [atomP] at h
    | cons s r' =>
      rw [atomP_rest] at h
      by_cases h1 : s.kind = 1
      · simp only [h1, if_true] at h
        conv => lhs; unfold J
        simp only [step, h1]
        simp
        cases hr : restP f true r' with
        | error e' => rw [hr] at h; simp at h
        | ok y => 
          obtain ⟨as, r3⟩ := y
          rw [hr] at h; simp at h
          obtain ⟨_, rfl⟩ := h
          exact rest_ok .neg hr (by simp)
      · simp [h1] at h
  · simp only [h10, if_false] at h
    by_cases h1 : t.kind = 1
    · have hl : ¬ 16 < l + 1 := by intro hx; exact hb ⟨by omega, .inr (by simp [isT, h1])⟩
      conv => lhs; unfold J
      simp only [step, h1]
      simp [hl]
      cases ho : hdOp r with
      | false =>
        simp only [h1, ho, true_and, if_true] at h
        rw [atomP_rest] at h
        simp only [h1, if_true] at h
        cases hr : restP f true r with
        | error e' => rw [hr] at h; simp at h
        | ok y =>
          obtain ⟨as, r3⟩ := y
          rw [hr] at h; simp at h
          obtain ⟨_, rfl⟩ := h
          exact rest_ok .pos hr (fun _ => ho)
      | true =>
        simp only [h1, ho, true_and] at h
        have ht1 : isT true t.kind = true := by simp [isT, h1]
        simp only [termP, ht1, if_true] at h
        simp at h
        cases r with
        | nil => simp [hdOp] at ho
        | cons s r' =>
          simp only [hdOp, decide_eq_true_eq] at ho
          simp only [takeP, ho] at h
          simp at h
          conv => lhs; unfold J
          simp only [step, ho]
          simp
          cases r' with
          | nil => simp at h
          | cons u r3 =>
            simp only at h
            by_cases hu : isT true u.kind = true
            · simp [hu] at h
              obtain ⟨_, rfl⟩ := h
              conv => lhs; unfold J
              simp [step, hu]
              exact J14 _
            · simp [hu] at h
    · simp only [h1, false_and, if_false] at h
      by_cases ht : isT true t.kind = true
      · have hl : ¬ 16 < l + 1 := by intro hx; exact hb ⟨by omega, .inr ht⟩
        have hk : t.kind = 2 ∨ t.kind = 3 ∨ t.kind = 4 := by
          simp [isT, h1] at ht
          omega
        conv => lhs; unfold J
        simp only [step]
        rw [if_pos hk]
        simp [hl]
        simp only [termP, ht, if_true] at h
        cases r with
        | nil => simp [takeP] at h
        | cons s r' =>
          simp only [takeP] at h
          by_cases ho : s.kind = 11
          · simp [ho] at h
            conv => lhs; unfold J
            simp only [step, ho]
            simp
            cases r' with
            | nil => simp at h
            | cons u r3 =>
              simp only at h
              by_cases hu : isT true u.kind = true
              · simp [hu] at h
                obtain ⟨_, rfl⟩ := h
                conv => lhs; unfold J
                simp [step, hu]
                exact J14 _
              · simp [hu] at h
          · simp [ho] at h
      · simp [termP, ht] at h
/-- A body. -/
theorem body_err {f : Flt} {q : Bool} {c : Nat} : ∀ {l n : Nat} {ts : List Tk} {e : Flt} {res : Res (List Lit)}, BodyR f l ts res → res = .error e → J f q 5 c l n ts = e := by
  intro l n ts e res h
  induction h generalizing e n with
  | none l => intro h; simp at h; simp [J, h]
  | many l t r h1 h2 =>
    intro h; simp at h
    simp only [J]
    have hs : ∃ to, step 5 t.kind q = some to ∧ to ≠ 99 := by
      rcases h2 with h2 | h2
      · exact ⟨10, by simp [step, h2], by decide⟩
      · simp [isT] at h2
        by_cases h3 : t.kind = 1
        · exact ⟨6, by simp [step, h3], by decide⟩
        · exact ⟨12, by simp only [step]; rw [if_pos (by omega)], by decide⟩
    obtain ⟨to, h3, h4⟩ := hs
    rw [h3]
    simp [h4, h]
    omega
  | bad l t r e' h1 h2 => intro h; simp at h; subst h; exact lit_err h1 h2
  | ends l t r x h1 h2 => intro h; simp at h; rw [lit_ok h1 h2]; simp [J, h]
  | comma l t r x s r1 e' h1 h2 h3 h4 ih =>
    intro h; simp at h; subst h
    rw [lit_ok h1 h2]
    simp only [J, step, h3]
    simp
    exact ih rfl
  | commaOk l t r x s r1 xs r2 h1 h2 h3 h4 ih => intro h; simp at h
  | dot l t r x s r1 h1 h2 h3 => intro h; simp at h
  | other l t r x s r1 h1 h2 h3 h4 => intro h; simp at h; rw [lit_ok h1 h2]; simp [J, step, h3, h4, h]
theorem body_ok {f : Flt} {q : Bool} {c : Nat} : ∀ {l n : Nat} {ts : List Tk} {xs : List Lit} {r : List Tk} {res : Res (List Lit)}, BodyR f l ts res → res = .ok (xs, r) → J f q 5 c l n ts = J f q (if q then 20 else 0) c 0 0 r := by
  intro l n ts xs r res h
  induction h generalizing xs r n with
  | none l => intro h; simp at h
  | many l t r h1 h2 => intro h; simp at h
  | bad l t r e' h1 h2 => intro h; simp at h
  | ends l t r x h1 h2 => intro h; simp at h
  | comma l t r x s r1 e' h1 h2 h3 h4 ih => intro h; simp at h
  | commaOk l t r' x s r1 xs' r2 h1 h2 h3 h4 ih =>
    intro h; simp at h
    obtain ⟨_, rfl⟩ := h
    rw [lit_ok h1 h2]
    conv => lhs; unfold J
    simp only [step, h3]
    simp
    exact ih rfl
  | dot l t r' x s r1 h1 h2 h3 =>
    intro h; simp at h
    obtain ⟨_, rfl⟩ := h
    rw [lit_ok h1 h2]
    conv => lhs; unfold J
    simp only [step, h3]
    cases q
    · simp; exact J0 _
    · simp; exact J20 _
  | other l t r x s r1 h1 h2 h3 h4 => intro h; simp at h
/-- A clause with its dot. -/
inductive ClsR (f : Flt) : List Tk → Res Cls → Prop
  | head (ts : List Tk) (e : Flt) : atomP f true ts = .error e → ClsR f ts (.error e)
  | none (ts : List Tk) (a : Atm) : atomP f true ts = .ok (a, []) → ClsR f ts (.error f)
  | dot (ts : List Tk) (a : Atm) (s : Tk) (r : List Tk) : atomP f true ts = .ok (a, s :: r) → s.kind = 8 → ClsR f ts (.ok (⟨a, []⟩, r))
  | arrow (ts : List Tk) (a : Atm) (s : Tk) (r : List Tk) (e : Flt) : atomP f true ts = .ok (a, s :: r) → s.kind = 9 → BodyR f 0 r (.error e) → ClsR f ts (.error e)
  | arrowOk (ts : List Tk) (a : Atm) (s : Tk) (r : List Tk) (xs : List Lit) (r2 : List Tk) : atomP f true ts = .ok (a, s :: r) → s.kind = 9 → BodyR f 0 r (.ok (xs, r2)) → ClsR f ts (.ok (⟨a, xs⟩, r2))
  | other (ts : List Tk) (a : Atm) (s : Tk) (r : List Tk) : atomP f true ts = .ok (a, s :: r) → s.kind ≠ 8 → s.kind ≠ 9 → ClsR f ts (.error (ref s))
/-- A program's clauses; c have come. -/
inductive ProgR (f : Flt) : Nat → List Tk → Except Flt (List Cls) → Prop
  | none (c : Nat) : ProgR f c [] (.error f)
  | fin (c : Nat) (t : Tk) (r : List Tk) : t.kind = 0 → ProgR f c (t :: r) (.ok [])
  | many (c : Nat) (t : Tk) (r : List Tk) : c ≥ 512 → t.kind = 1 → ProgR f c (t :: r) (.error (24, t.off))
  | bad (c : Nat) (t : Tk) (r : List Tk) (e : Flt) : t.kind ≠ 0 → ¬ (c ≥ 512 ∧ t.kind = 1) → ClsR f (t :: r) (.error e) → ProgR f c (t :: r) (.error e)
  | more (c : Nat) (t : Tk) (r : List Tk) (x : Cls) (r1 : List Tk) (e : Flt) : t.kind ≠ 0 → ¬ (c ≥ 512 ∧ t.kind = 1) → ClsR f (t :: r) (.ok (x, r1)) → ProgR f (c + 1) r1 (.error e) → ProgR f c (t :: r) (.error e)
  | moreOk (c : Nat) (t : Tk) (r : List Tk) (x : Cls) (r1 : List Tk) (xs : List Cls) : t.kind ≠ 0 → ¬ (c ≥ 512 ∧ t.kind = 1) → ClsR f (t :: r) (.ok (x, r1)) → ProgR f (c + 1) r1 (.ok xs) → ProgR f c (t :: r) (.ok (x :: xs))
/-- The atoms of a facts text; c have come. -/
inductive FactsR (f : Flt) : Nat → List Tk → Except Flt (List Atm) → Prop
  | none (c : Nat) : FactsR f c [] (.error f)
  | fin (c : Nat) (t : Tk) (r : List Tk) : t.kind = 0 → FactsR f c (t :: r) (.ok [])
  | many (c : Nat) (t : Tk) (r : List Tk) : c ≥ 4096 → t.kind = 1 → FactsR f c (t :: r) (.error (24, t.off))
  | bad (c : Nat) (t : Tk) (r : List Tk) (e : Flt) : t.kind ≠ 0 → ¬ (c ≥ 4096 ∧ t.kind = 1) → atomP f false (t :: r) = .error e → FactsR f c (t :: r) (.error e)
  | undot (c : Nat) (t : Tk) (r : List Tk) (x : Atm) (r1 : List Tk) (e : Flt) : t.kind ≠ 0 → ¬ (c ≥ 4096 ∧ t.kind = 1) → atomP f false (t :: r) = .ok (x, r1) → takeP f 8 r1 = .error e → FactsR f c (t :: r) (.error e)
  | more (c : Nat) (t : Tk) (r : List Tk) (x : Atm) (r1 : List Tk) (s : Tk) (r2 : List Tk) (e : Flt) : t.kind ≠ 0 → ¬ (c ≥ 4096 ∧ t.kind = 1) → atomP f false (t :: r) = .ok (x, r1) → takeP f 8 r1 = .ok (s, r2) → FactsR f (c + 1) r2 (.error e) → FactsR f c (t :: r) (.error e)
  | moreOk (c : Nat) (t : Tk) (r : List Tk) (x : Atm) (r1 : List Tk) (s : Tk) (r2 : List Tk) (xs : List Atm) : t.kind ≠ 0 → ¬ (c ≥ 4096 ∧ t.kind = 1) → atomP f false (t :: r) = .ok (x, r1) → takeP f 8 r1 = .ok (s, r2) → FactsR f (c + 1) r2 (.ok xs) → FactsR f c (t :: r) (.ok (x :: xs))
inductive QueryR (f : Flt) (ts : List Tk) : Except Flt (List Lit) → Prop
  | bad (e : Flt) : BodyR f 0 ts (.error e) → QueryR f ts (.error e)
  | open_ (xs : List Lit) (r : List Tk) (e : Flt) : BodyR f 0 ts (.ok (xs, r)) → takeP f 0 r = .error e → QueryR f ts (.error e)
  | ok (xs : List Lit) (r : List Tk) (s : Tk) (r2 : List Tk) : BodyR f 0 ts (.ok (xs, r)) → takeP f 0 r = .ok (s, r2) → QueryR f ts (.ok xs)
def factP (f : Flt) (ts : List Tk) : Except Flt Atm :=
  match atomP f false ts with
  | .error e => .error e
  | .ok (a, r) => match takeP f 0 r with
    | .error e => .error e
    | .ok _ => .ok a

/-! ### The automaton says the same -/
section
variable {f : Flt} {q : Bool} {c l n : Nat} {t : Tk} {r r' : List Tk} {e : Flt} {a : Atm}
theorem head_err (hk : t.kind ≠ 0) (hc : ¬ (c ≥ 512 ∧ t.kind = 1)) (h : atomP f true (t :: r) = .error e) : J f q 0 c l n (t :: r) = e := by
  rw [atomP_rest] at h
  by_cases h1 : t.kind = 1
  · have hc' : ¬ 512 < c + 1 := by intro hx; exact hc ⟨by omega, h1⟩
    simp only [h1, if_true] at h
    simp only [J, step, h1]
    simp [hc']
    cases hr : restP f true r with
    | error e' => rw [hr] at h; simp at h; subst h; exact rest_err .head hr
    | ok x => rw [hr] at h; simp at h
  · simp [h1] at h
    simp [J, step, h1, hk, h]
theorem head_ok (hc : ¬ (c ≥ 512 ∧ t.kind = 1)) (h : atomP f true (t :: r) = .ok (a, r')) : J f q 0 c l n (t :: r) = J f q 4 (c + 1) 0 0 r' := by
  rw [atomP_rest] at h
  by_cases h1 : t.kind = 1
  · have hc' : ¬ 512 < c + 1 := by intro hx; exact hc ⟨by omega, h1⟩
    simp only [h1, if_true] at h
    conv => lhs; unfold J
    simp only [step, h1]
    simp [hc']
    cases hr : restP f true r with
    | error e' => rw [hr] at h; simp at h
    | ok x =>
      obtain ⟨as, r3⟩ := x
      rw [hr] at h; simp at h
      obtain ⟨_, rfl⟩ := h
      exact rest_ok .head hr (by simp)
  · simp [h1] at h
theorem ground_err (hk : t.kind ≠ 0) (hc : ¬ (c ≥ 4096 ∧ t.kind = 1)) (h : atomP f false (t :: r) = .error e) : J f q 30 c l n (t :: r) = e := by
  rw [atomP_rest] at h
  by_cases h1 : t.kind = 1
  · have hc' : ¬ 4096 < c + 1 := by intro hx; exact hc ⟨by omega, h1⟩
    simp only [h1, if_true] at h
    simp only [J, step, h1]
    simp [hc']
    cases hr : restP f false r with
    | error e' => rw [hr] at h; simp at h; subst h; exact rest_err .facts hr
    | ok x => rw [hr] at h; simp at h
  · simp [h1] at h
    simp [J, step, h1, hk, h]
theorem ground_ok (hc : ¬ (c ≥ 4096 ∧ t.kind = 1)) (h : atomP f false (t :: r) = .ok (a, r')) : J f q 30 c l n (t :: r) = J f q 34 (c + 1) 0 0 r' := by
  rw [atomP_rest] at h
  by_cases h1 : t.kind = 1
  · have hc' : ¬ 4096 < c + 1 := by intro hx; exact hc ⟨by omega, h1⟩
    simp only [h1, if_true] at h
    conv => lhs; unfold J
    simp only [step, h1]
    simp [hc']
    cases hr : restP f false r with
    | error e' => rw [hr] at h; simp at h
    | ok x =>
      obtain ⟨as, r3⟩ := x
      rw [hr] at h; simp at h
      obtain ⟨_, rfl⟩ := h
      exact rest_ok .facts hr (by simp)
  · simp [h1] at h
theorem cls_err {res : Res Cls} (hk : t.kind ≠ 0) (hc : ¬ (c ≥ 512 ∧ t.kind = 1)) (h : ClsR f (t :: r) res) (he : res = .error e) : J f false 0 c l n (t :: r) = e := by
  cases h with
  | head e' h1 => simp at he; subst he; exact head_err hk hc h1
  | none a h1 => simp at he; rw [head_ok hc h1]; simp [J, he]
  | dot a s r2 h1 h2 => simp at he
  | arrow a s r2 e' h1 h2 h3 =>
    simp at he; subst he
    rw [head_ok hc h1]
    simp only [J, step, h2]
    simp
    exact body_err h3 rfl
  | arrowOk a s r2 xs r3 h1 h2 h3 => simp at he
  | other a s r2 h1 h2 h3 => simp at he; rw [head_ok hc h1]; simp [J, step, h2, h3, he]
theorem cls_ok {res : Res Cls} {x : Cls} (hc : ¬ (c ≥ 512 ∧ t.kind = 1)) (h : ClsR f (t :: r) res) (he : res = .ok (x, r')) : J f false 0 c l n (t :: r) = J f false 0 (c + 1) 0 0 r' := by
  cases h with
  | head e' h1 => simp at he
  | none a h1 => simp at he
  | dot a s r2 h1 h2 =>
    simp at he
    obtain ⟨_, rfl⟩ := he
    rw [head_ok hc h1]
    conv => lhs; unfold J
    simp only [step, h2]
    simp
  | arrow a s r2 e' h1 h2 h3 => simp at he
  | arrowOk a s r2 xs r3 h1 h2 h3 =>
    simp at he
    obtain ⟨_, rfl⟩ := he
    rw [head_ok hc h1]
    conv => lhs; unfold J
    simp only [step, h2]
    simp
    have := body_ok (q := false) (c := c + 1) (n := 0) h3 rfl
    simpa using this
  | other a s r2 h1 h2 h3 => simp at he
end
theorem prog_law {f : Flt} : ∀ {c l n : Nat} {ts : List Tk} {res : Except Flt (List Cls)}, ProgR f c ts res → J f false 0 c l n ts = (match res with | .error e => e | .ok _ => (0, 0)) := by
  intro c l n ts res h
  induction h generalizing l n with
  | none c => simp [J]
  | fin c t r h => simp [J, step, h]
  | many c t r h1 h2 => simp [J, step, h2]; omega
  | bad c t r e h1 h2 h3 => exact cls_err h1 h2 h3 rfl
  | more c t r x r1 e h1 h2 h3 h4 ih => rw [cls_ok h2 h3 rfl]; exact ih
  | moreOk c t r x r1 xs h1 h2 h3 h4 ih => rw [cls_ok h2 h3 rfl]; exact ih
theorem take8_err {f e : Flt} {q : Bool} {c l n : Nat} {ts : List Tk} (h : takeP f 8 ts = .error e) : J f q 34 c l n ts = e := by
  cases ts with
  | nil => simp [takeP] at h; simp [J, h]
  | cons t r =>
    simp only [takeP] at h
    by_cases h8 : t.kind = 8
    · simp [h8] at h
    · simp [h8] at h; simp [J, step, h8, h]
theorem take8_ok {f : Flt} {q : Bool} {c l n : Nat} {ts : List Tk} {s : Tk} {r : List Tk} (h : takeP f 8 ts = .ok (s, r)) : J f q 34 c l n ts = J f q 30 c 0 0 r := by
  cases ts with
  | nil => simp [takeP] at h
  | cons t u =>
    simp only [takeP] at h
    by_cases h8 : t.kind = 8
    · simp [h8] at h
      obtain ⟨_, rfl⟩ := h
      conv => lhs; unfold J
      simp only [step, h8]
      simp
      exact J30 _
    · simp [h8] at h
theorem facts_law {f : Flt} : ∀ {c l n : Nat} {ts : List Tk} {res : Except Flt (List Atm)}, FactsR f c ts res → J f false 30 c l n ts = (match res with | .error e => e | .ok _ => (0, 0)) := by
  intro c l n ts res h
  induction h generalizing l n with
  | none c => simp [J]
  | fin c t r h => simp [J, step, h]
  | many c t r h1 h2 => simp [J, step, h2]; omega
  | bad c t r e h1 h2 h3 => exact ground_err h1 h2 h3
  | undot c t r x r1 e h1 h2 h3 h4 => rw [ground_ok h2 h3]; exact take8_err h4
  | more c t r x r1 s r2 e h1 h2 h3 h4 h5 ih => rw [ground_ok h2 h3, take8_ok h4]; exact ih
  | moreOk c t r x r1 s r2 xs h1 h2 h3 h4 h5 ih => rw [ground_ok h2 h3, take8_ok h4]; exact ih
theorem take0 {f : Flt} {q : Bool} {st c l n : Nat} {ts : List Tk} (hst : st = 20 ∨ st = 44) : J f q st c l n ts = (match takeP f 0 ts with | .error e => e | .ok _ => (0, 0)) := by
  cases ts with
  | nil => simp [takeP, J]
  | cons t r =>
    rcases hst with rfl | rfl <;>
    · simp only [takeP, J, step]
      by_cases h0 : t.kind = 0 <;> simp [h0]
theorem query_law {f : Flt} {ts : List Tk} {res : Except Flt (List Lit)} (h : QueryR f ts res) : J f true 5 0 0 0 ts = (match res with | .error e => e | .ok _ => (0, 0)) := by
  cases h with
  | bad e h => exact body_err h rfl
  | open_ xs r e h1 h2 =>
    have := body_ok (q := true) (c := 0) (n := 0) h1 rfl
    rw [this]
    simp only [if_true]
    rw [take0 (.inl rfl), h2]
  | ok xs r s r2 h1 h2 =>
    have := body_ok (q := true) (c := 0) (n := 0) h1 rfl
    rw [this]
    simp only [if_true]
    rw [take0 (.inl rfl), h2]
theorem fact_law {f : Flt} {ts : List Tk} : J f false 40 0 0 0 ts = (match factP f ts with | .error e => e | .ok _ => (0, 0)) := by
  unfold factP
  cases ts with
  | nil => simp [atomP, J]
  | cons t r =>
    rw [atomP_rest]
    by_cases h1 : t.kind = 1
    · simp only [h1, if_true]
      simp only [J, step, h1]
      simp
      cases hr : restP f false r with
      | error e' => simp; exact rest_err .fact hr
      | ok x =>
        obtain ⟨as, r3⟩ := x
        simp only
        rw [rest_ok .fact hr (by simp), take0 (.inr rfl)]
        cases takeP f 0 r3 <;> rfl
    · simp [h1, J, step]
/-! ### What comes back reads as the tokens -/
structure Ex where
  kind : Nat
  text : List UInt8
  int : Int
  op : Nat
  off : Option Nat
structure Mt (t : Tk) (e : Ex) : Prop where
  kind : t.kind = e.kind
  text : t.text = e.text
  int : t.int = e.int
  op : t.op = e.op
  off : ∀ o, e.off = some o → t.off = o
inductive Rd : List Tk → List Ex → Prop
  | nil : Rd [] []
  | cons {t : Tk} {e : Ex} {ts : List Tk} {es : List Ex} : Mt t e → Rd ts es → Rd (t :: ts) (e :: es)
theorem Rd.append {ts us : List Tk} {es gs : List Ex} (h : Rd ts es) (k : Rd us gs) : Rd (ts ++ us) (es ++ gs) := by
  induction h with
  | nil => exact k
  | cons h1 _ ih => exact .cons h1 ih
/-- What a token of a kind bears. -/
structure Shp (t : Tk) : Prop where
  le : t.kind ≤ 11
  int : t.kind ≠ 3 → t.int = 0
  op : t.kind ≠ 11 → t.op = 0
  text : t.kind ≠ 1 → t.kind ≠ 2 → t.kind ≠ 4 → t.text = []
def mkE (k : Nat) : Ex := ⟨k, [], 0, 0, none⟩
def flatTerm (x : Trm) : Ex := ⟨if x.kind = 1 then 3 else if x.kind = 2 then 1 else if x.kind = 3 then 4 else if x.kind = 4 then 2 else 0, x.text, x.int, 0, some x.off⟩
/-- Terms with their commas, behind a first one. -/
def flatMore : List Trm → List Ex
  | [] => []
  | x :: xs => mkE 7 :: flatTerm x :: flatMore xs
def flatArgs : List Trm → List Ex
  | [] => []
  | x :: xs => mkE 5 :: flatTerm x :: flatMore xs ++ [mkE 6]
def flatAtom (a : Atm) : List Ex := ⟨1, a.pred, 0, 0, some a.off⟩ :: flatArgs a.args
def flatLit (x : Lit) : List Ex :=
  if x.kind = 1 then flatAtom x.atom else if x.kind = 2 then ⟨10, [], 0, 0, some x.off⟩ :: flatAtom x.atom else [flatTerm x.left, ⟨11, [], 0, x.op, none⟩, flatTerm x.right]
def flatLits : List Lit → List Ex
  | [] => []
  | x :: xs => mkE 7 :: flatLit x ++ flatLits xs
def flatBody : List Lit → List Ex
  | [] => []
  | x :: xs => flatLit x ++ flatLits xs
def flatCls (x : Cls) : List Ex := flatAtom x.head ++ (if x.body = [] then [] else mkE 9 :: flatBody x.body) ++ [mkE 8]
def flatProg : List Cls → List Ex
  | [] => [mkE 0]
  | x :: xs => flatCls x ++ flatProg xs
def flatFacts : List Atm → List Ex
  | [] => [mkE 0]
  | x :: xs => flatAtom x ++ mkE 8 :: flatFacts xs
section
variable {f : Flt} {vars : Bool} {t s : Tk} {r r' ts : List Tk}
theorem Shp.mark (h : Shp t) (k : Nat) (hk : t.kind = k) (h5 : k ≠ 1 ∧ k ≠ 2 ∧ k ≠ 3 ∧ k ≠ 4 ∧ k ≠ 11) : Mt t (mkE k) :=
  ⟨hk, h.text (by omega) (by omega) (by omega), h.int (by omega), h.op (by omega), fun o ho => by simp [mkE] at ho⟩
theorem Shp.term (h : Shp t) (hv : isT vars t.kind = true) : Mt t (flatTerm (trm t)) := by
  simp [isT] at hv
  unfold trm flatTerm
  by_cases h3 : t.kind = 3
  · simp [h3]
    exact ⟨h3, h.text (by omega) (by omega) (by omega), rfl, h.op (by omega), fun o ho => by simpa using ho⟩
  · by_cases h1 : t.kind = 1
    · simp [h1]
      exact ⟨h1, rfl, h.int (by omega), h.op (by omega), fun o ho => by simpa using ho⟩
    · by_cases h4 : t.kind = 4
      · simp [h4]
        exact ⟨h4, rfl, h.int (by omega), h.op (by omega), fun o ho => by simpa using ho⟩
      · have h2 : t.kind = 2 := by omega
        simp [h2]
        exact ⟨h2, rfl, h.int (by omega), h.op (by omega), fun o ho => by simpa using ho⟩
theorem args_rd : ∀ (n : Nat) (ts : List Tk) (as : List Trm) (r : List Tk), (∀ t ∈ ts, Shp t) → argsP f vars n ts = .ok (as, r) → ∃ x xs p, as = x :: xs ∧ ts = p ++ r ∧ Rd p (flatTerm x :: flatMore xs ++ [mkE 6])
  | n, [], as, r, _, h => by simp [argsP] at h
  | n, [t], as, r, _, h => by
    simp only [argsP] at h
    split at h
    · simp at h
    · split at h <;> simp at h
  | n, t :: u :: r, as, r', hs, h => by
    simp only [argsP] at h
    have h1 := hs t (by simp)
    have h2 := hs u (by simp)
    split at h
    · simp at h
    · split at h
      · rename_i hv
        split at h
        · rename_i h7
          split at h
          · simp at h
          · rename_i as' r'' h4
            simp at h
            obtain ⟨rfl, rfl⟩ := h
            obtain ⟨x, xs, p, rfl, rfl, hp⟩ := args_rd (n + 1) r as' r'' (fun z hz => hs z (by simp [hz])) h4
            exact ⟨_, _, t :: u :: p, rfl, rfl, .cons (h1.term hv) (.cons (h2.mark 7 h7 (by decide)) hp)⟩
        · split at h
          · rename_i h6
            simp at h
            obtain ⟨rfl, rfl⟩ := h
            exact ⟨_, [], [t, u], rfl, rfl, .cons (h1.term hv) (.cons (h2.mark 6 h6 (by decide)) .nil)⟩
          · simp at h
      · simp at h
theorem atom_rd {a : Atm} (hs : ∀ t ∈ ts, Shp t) (h : atomP f vars ts = .ok (a, r)) : ∃ p, ts = p ++ r ∧ Rd p (flatAtom a) := by
  cases ts with
  | nil => simp [atomP] at h
  | cons t u =>
    rw [atomP_rest] at h
    by_cases h1 : t.kind = 1
    · simp only [h1, if_true] at h
      have ht := hs t (by simp)
      have hm : ∀ as, Mt t ⟨1, (⟨t.text, as, t.off⟩ : Atm).pred, 0, 0, some t.off⟩ := fun as => ⟨h1, rfl, ht.int (by omega), ht.op (by omega), fun o ho => by simpa using ho⟩
      cases hr : restP f vars u with
      | error e => rw [hr] at h; simp at h
      | ok x =>
        obtain ⟨as, r3⟩ := x
        rw [hr] at h; simp at h
        obtain ⟨rfl, rfl⟩ := h
        cases u with
        | nil => simp [restP] at hr
        | cons s u' =>
          simp only [restP] at hr
          by_cases h5 : s.kind = 5
          · simp only [h5, if_true] at hr
            obtain ⟨x, xs, p, rfl, rfl, hp⟩ := args_rd 0 u' as r3 (fun z hz => hs z (by simp [hz])) hr
            exact ⟨t :: s :: p, rfl, .cons (hm _) (.cons ((hs s (by simp)).mark 5 h5 (by decide)) hp)⟩
          · simp only [h5, if_false] at hr
            simp at hr
            obtain ⟨rfl, rfl⟩ := hr
            exact ⟨[t], rfl, .cons (hm _) .nil⟩
    · simp [h1] at h
theorem lit_rd {x : Lit} (hs : ∀ t ∈ ts, Shp t) (h : litP f ts = .ok (x, r)) : ∃ p, ts = p ++ r ∧ Rd p (flatLit x) := by
  cases ts with
  | nil => simp [litP] at h
  | cons t u =>
    have ht := hs t (by simp)
    have hu : ∀ z ∈ u, Shp z := fun z hz => hs z (by simp [hz])
    simp only [litP] at h
    split at h
    · rename_i h10
      split at h
      · simp at h
      · rename_i a r1 ha
        simp at h
        obtain ⟨rfl, rfl⟩ := h
        obtain ⟨p, rfl, hp⟩ := atom_rd hu ha
        refine ⟨t :: p, rfl, ?_⟩
        show Rd (t :: p) (⟨10, [], 0, 0, some t.off⟩ :: flatAtom a)
        exact .cons ⟨h10, ht.text (by omega) (by omega) (by omega), ht.int (by omega), ht.op (by omega), fun o ho => by simpa using ho⟩ hp
    · split at h
      · split at h
        · simp at h
        · rename_i a r1 ha
          simp at h
          obtain ⟨rfl, rfl⟩ := h
          obtain ⟨p, e, hp⟩ := atom_rd hs ha
          exact ⟨p, e, hp⟩
      · simp only [termP] at h
        by_cases hv : isT true t.kind = true
        · simp only [hv, if_true] at h
          cases u with
          | nil => simp [takeP] at h
          | cons o u1 =>
            simp only [takeP] at h
            by_cases ho : o.kind = 11
            · simp [ho] at h
              cases u1 with
              | nil => simp at h
              | cons w u2 =>
                simp only at h
                by_cases hw : isT true w.kind = true
                · simp [hw] at h
                  obtain ⟨rfl, rfl⟩ := h
                  have h2 := hs o (by simp)
                  refine ⟨[t, o, w], rfl, ?_⟩
                  show Rd [t, o, w] [flatTerm (trm t), ⟨11, [], 0, o.op, none⟩, flatTerm (trm w)]
                  exact .cons (ht.term hv) (.cons ⟨ho, h2.text (by omega) (by omega) (by omega), h2.int (by omega), rfl, fun z hz => by simp at hz⟩ (.cons ((hs w (by simp)).term hw) .nil))
                · simp [hw] at h
            · simp [ho] at h
        · simp [hv] at h
theorem body_rd : ∀ {n : Nat} {ts : List Tk} {xs : List Lit} {r : List Tk} {res : Res (List Lit)}, BodyR f n ts res → res = .ok (xs, r) → (∀ t ∈ ts, Shp t) → ∃ p s, xs ≠ [] ∧ ts = p ++ s :: r ∧ Mt s (mkE 8) ∧ Rd p (flatBody xs) ∧ Rd p ((flatLits xs).drop 1) := by
  intro n ts xs r res h
  induction h generalizing xs r with
  | none l => intro h; simp at h
  | many l t r h1 h2 => intro h; simp at h
  | bad l t r e' h1 h2 => intro h; simp at h
  | ends l t r x h1 h2 => intro h; simp at h
  | comma l t r x s r1 e' h1 h2 h3 h4 ih => intro h; simp at h
  | commaOk l t u x s r1 xs' r2 h1 h2 h3 h4 ih =>
    intro h hs; simp at h
    obtain ⟨rfl, rfl⟩ := h
    obtain ⟨p, e, hp⟩ := lit_rd hs h2
    rw [e] at hs
    obtain ⟨p2, s2, hne, e2, hm, hp2, hp3⟩ := ih rfl (fun z hz => hs z (by simp [hz]))
    rw [e, e2]
    have hsm := (hs s (by simp)).mark 7 h3 (by decide)
    have hfl : flatLits xs' = mkE 7 :: flatBody xs' := by
      cases xs' with
      | nil => exact absurd rfl hne
      | cons y ys => rfl
    have hb : Rd (p ++ s :: p2) (flatBody (x :: xs')) := by
      show Rd _ (flatLit x ++ flatLits xs')
      rw [hfl]
      exact hp.append (.cons hsm hp2)
    exact ⟨p ++ s :: p2, s2, by simp, by simp, hm, hb, hb⟩
  | dot l t u x s r1 h1 h2 h3 =>
    intro h hs; simp at h
    obtain ⟨rfl, rfl⟩ := h
    obtain ⟨p, e, hp⟩ := lit_rd hs h2
    rw [e] at hs ⊢
    have hb : Rd p (flatBody [x]) := by
      show Rd p (flatLit x ++ [])
      rw [List.append_nil]; exact hp
    exact ⟨p, s, by simp, rfl, (hs s (by simp)).mark 8 h3 (by decide), hb, hb⟩
  | other l t r x s r1 h1 h2 h3 h4 => intro h; simp at h
theorem cls_rd {x : Cls} {res : Res Cls} (hs : ∀ t ∈ ts, Shp t) (h : ClsR f ts res) (he : res = .ok (x, r)) : ∃ p, ts = p ++ r ∧ Rd p (flatCls x) := by
  cases h with
  | head e' h1 => simp at he
  | none a h1 => simp at he
  | dot a s r2 h1 h2 =>
    simp at he
    obtain ⟨rfl, rfl⟩ := he
    obtain ⟨p, e, hp⟩ := atom_rd hs h1
    rw [e] at hs
    refine ⟨p ++ [s], by rw [e]; simp, ?_⟩
    show Rd (p ++ [s]) (flatAtom a ++ [] ++ [mkE 8])
    rw [List.append_nil]
    exact hp.append (.cons ((hs s (by simp)).mark 8 h2 (by decide)) .nil)
  | arrow a s r2 e' h1 h2 h3 => simp at he
  | arrowOk a s r2 xs r3 h1 h2 h3 =>
    simp at he
    obtain ⟨rfl, rfl⟩ := he
    obtain ⟨p, e, hp⟩ := atom_rd hs h1
    rw [e] at hs
    obtain ⟨p2, s2, hne, e2, hm, hp2, _⟩ := body_rd h3 rfl (fun z hz => hs z (by simp [hz]))
    refine ⟨p ++ s :: p2 ++ [s2], by rw [e, e2]; simp, ?_⟩
    unfold flatCls
    rw [if_neg hne]
    exact (hp.append (.cons ((hs s (by simp)).mark 9 h2 (by decide)) hp2)).append (.cons hm .nil)
  | other a s r2 h1 h2 h3 => simp at he
end
/-- The end stands last. -/
def Last (ts : List Tk) : Prop := ∀ t r p, ts = p ++ t :: r → t.kind = 0 → r = []
theorem Last.tail {p r : List Tk} (h : Last (p ++ r)) : Last r := fun t u q e hk => h t u (p ++ q) (by rw [e, List.append_assoc]) hk
theorem prog_rd {f : Flt} : ∀ {c : Nat} {ts : List Tk} {res : Except Flt (List Cls)} {xs : List Cls}, ProgR f c ts res → res = .ok xs → (∀ t ∈ ts, Shp t) → Last ts → Rd ts (flatProg xs) := by
  intro c ts res xs h
  induction h generalizing xs with
  | none c => intro h; simp at h
  | fin c t r h =>
    intro he hs hl; simp at he; subst he
    obtain rfl := hl t r [] rfl h
    exact .cons ((hs t (by simp)).mark 0 h (by decide)) .nil
  | many c t r h1 h2 => intro h; simp at h
  | bad c t r e h1 h2 h3 => intro h; simp at h
  | more c t r x r1 e h1 h2 h3 h4 ih => intro h; simp at h
  | moreOk c t r x r1 xs' h1 h2 h3 h4 ih =>
    intro he hs hl; simp at he; subst he
    obtain ⟨p, e, hp⟩ := cls_rd hs h3 rfl
    rw [e] at hs hl ⊢
    exact hp.append (ih rfl (fun z hz => hs z (by simp [hz])) hl.tail)
theorem take8_rd {f : Flt} {ts : List Tk} {s : Tk} {r : List Tk} (h : takeP f 8 ts = .ok (s, r)) : ts = s :: r ∧ s.kind = 8 := by
  cases ts with
  | nil => simp [takeP] at h
  | cons t u =>
    simp only [takeP] at h
    by_cases h8 : t.kind = 8
    · simp [h8] at h
      obtain ⟨rfl, rfl⟩ := h
      exact ⟨rfl, h8⟩
    · simp [h8] at h
theorem take0_rd {f : Flt} {ts : List Tk} {s : Tk} {r : List Tk} (h : takeP f 0 ts = .ok (s, r)) : ts = r ∧ s.kind = 0 ∧ ∃ u, r = s :: u := by
  cases ts with
  | nil => simp [takeP] at h
  | cons t u =>
    simp only [takeP] at h
    by_cases h8 : t.kind = 0
    · simp [h8] at h
      obtain ⟨rfl, rfl⟩ := h
      exact ⟨rfl, h8, u, rfl⟩
    · simp [h8] at h
theorem facts_rd {f : Flt} : ∀ {c : Nat} {ts : List Tk} {res : Except Flt (List Atm)} {xs : List Atm}, FactsR f c ts res → res = .ok xs → (∀ t ∈ ts, Shp t) → Last ts → Rd ts (flatFacts xs) := by
  intro c ts res xs h
  induction h generalizing xs with
  | none c => intro h; simp at h
  | fin c t r h =>
    intro he hs hl; simp at he; subst he
    obtain rfl := hl t r [] rfl h
    exact .cons ((hs t (by simp)).mark 0 h (by decide)) .nil
  | many c t r h1 h2 => intro h; simp at h
  | bad c t r e h1 h2 h3 => intro h; simp at h
  | undot c t r x r1 e h1 h2 h3 h4 => intro h; simp at h
  | more c t r x r1 s r2 e h1 h2 h3 h4 h5 ih => intro h; simp at h
  | moreOk c t r x r1 s r2 xs' h1 h2 h3 h4 h5 ih =>
    intro he hs hl; simp at he; subst he
    obtain ⟨p, e, hp⟩ := atom_rd hs h3
    obtain ⟨e2, hk⟩ := take8_rd h4
    rw [e, e2] at hs hl ⊢
    refine hp.append (.cons ((hs s (by simp)).mark 8 hk (by decide)) (ih rfl (fun z hz => hs z (by simp [hz])) ?_))
    exact Last.tail (p := [s]) hl.tail
theorem query_rd {f : Flt} {ts : List Tk} {xs : List Lit} {res : Except Flt (List Lit)} (h : QueryR f ts res) (he : res = .ok xs) (hs : ∀ t ∈ ts, Shp t) (hl : Last ts) : Rd ts (flatBody xs ++ [mkE 8, mkE 0]) := by
  cases h with
  | bad e h => simp at he
  | open_ ys r e h1 h2 => simp at he
  | ok ys r s r2 h1 h2 =>
    simp at he; subst he
    obtain ⟨p, s2, _, e, hm, hp, _⟩ := body_rd h1 rfl hs
    obtain ⟨rfl, hk, u, rfl⟩ := take0_rd h2
    rw [e] at hs hl ⊢
    obtain rfl := hl s u (p ++ [s2]) (by simp) hk
    exact hp.append (.cons hm (.cons ((hs s (by simp)).mark 0 hk (by decide)) .nil))
theorem fact_rd {f : Flt} {ts : List Tk} {a : Atm} (h : factP f ts = .ok a) (hs : ∀ t ∈ ts, Shp t) (hl : Last ts) : Rd ts (flatAtom a ++ [mkE 0]) := by
  unfold factP at h
  cases ha : atomP f false ts with
  | error e => rw [ha] at h; simp at h
  | ok x =>
    obtain ⟨b, r⟩ := x
    rw [ha] at h
    simp only at h
    cases h0 : takeP f 0 r with
    | error e => rw [h0] at h; simp at h
    | ok y =>
      obtain ⟨s, r2⟩ := y
      rw [h0] at h
      simp at h
      subst h
      obtain ⟨p, e, hp⟩ := atom_rd hs ha
      obtain ⟨rfl, hk, u, rfl⟩ := take0_rd h0
      rw [e] at hs hl ⊢
      obtain rfl := hl s u p rfl hk
      exact hp.append (.cons ((hs s (by simp)).mark 0 hk (by decide)) .nil)
end Gr
end Pl
end Go.Proofs.YtncdjkdpoinfaaaGreatDoor
/-
  The tokens of a text bear what their kinds bear, and the end stands last. No program in sight. (Stands in the seat's namespace behind wip/T P6 and G1: the names are those of wip/T's seat.)
-/
namespace Go.Proofs.YtncdjkdpoinfaaaGreatDoor
namespace Pl
namespace Gr
theorem signs_shp : ∀ s ∈ signs, s.2.1 ≠ 0 ∧ s.2.1 ≤ 11 ∧ (s.2.1 ≠ 11 → s.2.2 = 0) ∧ s.2.1 ≠ 3 := by decide
theorem tok_shp {w text : List UInt8} {kind op off fin : Nat} {int : Int} (h : TokOk w kind op text int) : Shp ⟨kind, text, int, op, off, fin⟩ ∧ kind ≠ 0 := by
  cases h with
  | int w f v h1 h2 h3 h4 => exact ⟨⟨by simp, by simp, by simp, by simp⟩, by simp⟩
  | no w h => exact ⟨⟨by simp, by simp, by simp, by simp⟩, by simp⟩
  | name c r h1 h2 h3 h4 => exact ⟨⟨by simp, by simp, by simp, by simp⟩, by simp⟩
  | var c r h1 h2 h3 h4 => exact ⟨⟨by simp, by simp, by simp, by simp⟩, by simp⟩
  | text c w t h1 h2 h3 => exact ⟨⟨by simp, by simp, by simp, by simp⟩, by simp⟩
  | sign w p kind op h1 h2 =>
    obtain ⟨s1, s2, s3, s4⟩ := signs_shp _ h1
    exact ⟨⟨s2, fun _ => rfl, s3, fun _ _ _ => rfl⟩, s1⟩
theorem sc_shp {l : List UInt8} {p : Nat} {ts : List Tk} {f : Nat × Nat} (h : Sc l p ts f) : (∀ t ∈ ts, Shp t) ∧ Last ts := by
  induction h with
  | openC p st h => exact ⟨fun t ht => by simp at ht, fun t r q e hk => by simp at e⟩
  | fin p h =>
    refine ⟨fun t ht => ?_, fun t r q e hk => ?_⟩
    · simp at ht; subst ht; exact ⟨by simp, by simp, by simp, by simp⟩
    · cases q with
      | nil => simp at e; exact e.2
      | cons x q => simp at e
  | fault p r a code h1 h2 => exact ⟨fun t ht => by simp at ht, fun t r q e hk => by simp at e⟩
  | tok p r rest text kind op int ts f h1 h2 h3 ih =>
    obtain ⟨w, _, _, h4, _⟩ := next_tok h2
    obtain ⟨s1, s2⟩ := tok_shp (off := l.length - r.length) (fin := l.length - rest.length) h4
    refine ⟨fun t ht => ?_, fun t r' q e hk => ?_⟩
    · rcases List.mem_cons.1 ht with rfl | ht
      · exact s1
      · exact ih.1 t ht
    · cases q with
      | nil =>
        simp at e
        obtain ⟨rfl, rfl⟩ := e
        exact absurd hk s2
      | cons x q =>
        simp at e
        exact ih.2 t r' q e.2 hk
end Gr
end Pl
end Go.Proofs.YtncdjkdpoinfaaaGreatDoor
