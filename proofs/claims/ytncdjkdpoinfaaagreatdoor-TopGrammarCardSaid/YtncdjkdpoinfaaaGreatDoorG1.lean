/-
  Texts of this seat, one behind the other: P1, P2, P3, P4, P5, P6, P7. Conditions: those that each of them states.
-/
import Derived.Lib.ParseIntB
/-
  What a text's gaps and tokens are, in plain Lean. No program in sight.
-/
namespace Go.Proofs.YtncdjkdpoinfaaaGreatDoor
namespace Pl

def isD (c : UInt8) : Bool := decide (48 ≤ c.toNat) && decide (c.toNat ≤ 57)
def isU (c : UInt8) : Bool := (decide (65 ≤ c.toNat) && decide (c.toNat ≤ 90)) || decide (c.toNat = 95)
def isL (c : UInt8) : Bool := decide (97 ≤ c.toNat) && decide (c.toNat ≤ 122)
def isW (c : UInt8) : Bool := isD c || isU c || isL c
def isB (c : UInt8) : Bool := decide (c.toNat = 32) || decide (c.toNat = 9) || decide (c.toNat = 10) || decide (c.toNat = 13)

/-- Where in a gap one is: between, in a line's comment, in a block comment (its depth, and what stood at its begin). -/
inductive Md where
  | out
  | line
  | block (d : Nat) (start : List UInt8)

/-- What stands behind the gap, or what stands from the block comment on that is not closed. -/
def gap : Md → List UInt8 → List UInt8 ⊕ List UInt8
  | .out, [] => .inl []
  | .out, [a] => if isB a then gap .out [] else if a.toNat = 37 then gap .line [] else .inl [a]
  | .out, a :: b :: r =>
    if isB a then gap .out (b :: r)
    else if a.toNat = 37 then gap .line (b :: r)
    else if a.toNat = 47 ∧ b.toNat = 42 then gap (.block 1 (a :: b :: r)) r
    else .inl (a :: b :: r)
  | .line, [] => .inl []
  | .line, a :: r => if a.toNat = 10 then gap .out r else gap .line r
  | .block _ st, [] => .inr st
  | .block _ st, [_] => .inr st
  | .block d st, a :: b :: r =>
    if a.toNat = 47 ∧ b.toNat = 42 then gap (.block (d + 1) st) r
    else if a.toNat = 42 ∧ b.toNat = 47 then (if d = 1 then gap .out r else gap (.block (d - 1) st) r)
    else gap (.block d st) (b :: r)

/-- A hexadecimal digit's value; 16: it is none. -/
def hexV (c : UInt8) : Nat :=
  if 48 ≤ c.toNat ∧ c.toNat ≤ 57 then c.toNat - 48
  else if 97 ≤ c.toNat ∧ c.toNat ≤ 102 then c.toNat - 97 + 10
  else if 65 ≤ c.toNat ∧ c.toNat ≤ 70 then c.toNat - 65 + 10
  else 16
/-- What an escape means (the list begins with its backslash), and how long it is. -/
def esc : List UInt8 → Option (UInt8 × Nat)
  | _ :: b :: r =>
    if b.toNat = 34 ∨ b.toNat = 92 then some (b, 2)
    else if b.toNat = 110 then some (10, 2)
    else if b.toNat = 116 then some (9, 2)
    else if b.toNat = 114 then some (13, 2)
    else if b.toNat = 120 then
      match r with
      | h :: l :: _ => if hexV h < 16 ∧ hexV l < 16 then some (UInt8.ofNat (hexV h * 16 + hexV l), 4) else none
      | _ => none
    else none
  | _ => none
theorem esc_len {r : List UInt8} {c : UInt8} {n : Nat} (h : esc r = some (c, n)) : 2 ≤ n ∧ n ≤ r.length := by
  unfold esc at h
  split at h
  · rename_i b r
    repeat' split at h
    all_goals first
      | (simp only [Option.some.injEq, Prod.mk.injEq] at h; obtain ⟨_, rfl⟩ := h; simp)
      | cases h
  · cases h

inductive Tx where
  | quote
  | esc (at' : List UInt8)
  | long
  | ok (text rest : List UInt8)
/-- A text behind its quote: what was read so far, and what is to come. -/
def txt (acc : List UInt8) : List UInt8 → Tx
  | [] => .quote
  | a :: r =>
    if a.toNat < 32 then .quote
    else if a.toNat = 34 then .ok acc r
    else if a.toNat = 92 then
      match _h : esc (a :: r) with
      | none => .esc (a :: r)
      | some (c, n) => if acc.length = 255 then .long else txt (acc ++ [c]) ((a :: r).drop n)
    else if acc.length = 255 then .long else txt (acc ++ [a]) r
  termination_by l => l.length
  decreasing_by
  · have := esc_len _h
    rw [List.length_drop]; simp; omega
  · simp

/-- The value of digits, a minus ahead of them perhaps; none: outside int64. -/
def digV (acc : Nat) : List UInt8 → Nat
  | [] => acc
  | c :: r => digV (acc * 10 + (c.toNat - 48)) r
def intV : List UInt8 → Option Int
  | [] => none
  | c :: r =>
    if c.toNat = 45 then (if digV 0 r ≤ 9223372036854775808 then some (-(digV 0 r : Int)) else none)
    else if digV 0 (c :: r) < 9223372036854775808 then some (digV 0 (c :: r) : Int) else none

/-- The tokens of one and two bytes: their spelling, kind and operation. -/
def signs : List (List Nat × Nat × Nat) := [([58, 45], 9, 0), ([33, 61], 11, 2), ([60, 61], 11, 4), ([62, 61], 11, 6), ([60], 11, 3), ([62], 11, 5), ([61], 11, 1), ([40], 5, 0), ([41], 6, 0), ([44], 7, 0), ([46], 8, 0)]
def pre (p : List Nat) (r : List UInt8) : Bool := decide ((r.take p.length).map (·.toNat) = p)

/-- What comes next is of this kind. -/
def hdP (p : UInt8 → Bool) : List UInt8 → Bool
  | c :: _ => p c
  | [] => false

inductive Nx where
  | fin
  | fault (code : Nat) (at' : List UInt8)
  | tok (kind op : Nat) (text : List UInt8) (int : Int) (rest : List UInt8)
def nextInt (r f : List UInt8) : Nx :=
  if (f.takeWhile isW).all isD then
    match intV (r.take (r.length - (f.dropWhile isW).length)) with
    | some v => .tok 3 0 [] v (f.dropWhile isW)
    | none => .fault 13 r
  else .fault 13 r
def nextWord (r : List UInt8) : Nx :=
  if 64 < (r.takeWhile isW).length then .fault 14 r
  else if (r.takeWhile isW).map (·.toNat) = [110, 111, 116] then .tok 10 0 [] 0 (r.dropWhile isW)
  else if hdP isL r then .tok 1 0 (r.takeWhile isW) 0 (r.dropWhile isW)
  else .tok 2 0 (r.takeWhile isW) 0 (r.dropWhile isW)
def nextText (r r0 : List UInt8) : Nx :=
  match txt [] r0 with
  | .quote => .fault 11 r
  | .esc a => .fault 12 a
  | .long => .fault 15 r
  | .ok t rest => .tok 4 0 t 0 rest
def nextSign (r : List UInt8) : Nx :=
  match signs.find? (fun s => pre s.1 r) with
  | some (p, kind, op) => .tok kind op [] 0 (r.drop p.length)
  | none => .fault 10 r
/-- The token that stands there. -/
def next : List UInt8 → Nx
  | [] => .fin
  | c :: r =>
    if isD c then nextInt (c :: r) (c :: r)
    else if c.toNat = 45 ∧ hdP isD r = true then nextInt (c :: r) r
    else if isW c then nextWord (c :: r)
    else if c.toNat = 34 then nextText (c :: r) r
    else nextSign (c :: r)

structure Tk where
  kind : Nat
  text : List UInt8
  int : Int
  op : Nat
  off : Nat
  fin : Nat
/-- All tokens of a text of n bytes from the rest r on, and the fault: its code and its place. -/
def scan : Nat → Nat → List UInt8 → List Tk × Nat × Nat
  | 0, _, _ => ([], 0, 0)
  | k + 1, n, r =>
    match gap .out r with
    | .inr st => ([], 16, n - st.length)
    | .inl r' =>
      match next r' with
      | .fin => ([⟨0, [], 0, 0, n, n⟩], 0, 0)
      | .fault code a => ([], code, n - a.length)
      | .tok kind op text int rest => (⟨kind, text, int, op, n - r'.length, n - rest.length⟩ :: (scan k n rest).1, (scan k n rest).2)

end Pl
end Go.Proofs.YtncdjkdpoinfaaaGreatDoor
/-
  What a token's spelling is: in plain Lean. No program in sight.
-/
namespace Go.Proofs.YtncdjkdpoinfaaaGreatDoor
namespace Pl

/-- What comes next is not of this kind. -/
def hdNot (p : UInt8 → Bool) : List UInt8 → Prop
  | [] => True
  | c :: _ => p c = false
theorem while_split (p : UInt8 → Bool) : ∀ r : List UInt8, r = r.takeWhile p ++ r.dropWhile p := fun r => List.takeWhile_append_dropWhile.symm
theorem while_all (p : UInt8 → Bool) : ∀ r : List UInt8, (r.takeWhile p).all p = true
  | [] => rfl
  | c :: r => by
    rw [List.takeWhile_cons]
    split
    · rename_i h; rw [List.all_cons, h, while_all p r]; rfl
    · rfl
theorem while_hd (p : UInt8 → Bool) : ∀ r : List UInt8, hdNot p (r.dropWhile p)
  | [] => trivial
  | c :: r => by
    rw [List.dropWhile_cons]
    split
    · exact while_hd p r
    · rename_i h; show p c = false; simpa using h
theorem while_self {p : UInt8 → Bool} {w : List UInt8} (h : w.all p = true) : w.takeWhile p = w ∧ w.dropWhile p = [] := by
  induction w with
  | nil => exact ⟨rfl, rfl⟩
  | cons c r ih =>
    rw [List.all_cons, Bool.and_eq_true] at h
    obtain ⟨h1, h2⟩ := ih h.2
    rw [List.takeWhile_cons, List.dropWhile_cons, if_pos h.1, if_pos h.1, h1, h2]
    exact ⟨rfl, rfl⟩

theorem esc_self {r u rest : List UInt8} {c : UInt8} {n : Nat} (h : esc r = some (c, n)) (hr : r = u ++ rest) (hn : n ≤ u.length) : esc u = some (c, n) := by
  have h2 := (esc_len h).1
  match u, hn, hr with
  | [], hn, _ => simp at hn; omega
  | [_], hn, _ => simp at hn; omega
  | [a, b], hn, hr =>
    subst hr
    have e : n = 2 := by simp at hn; omega
    subst e
    revert h
    unfold esc
    simp only [List.cons_append, List.nil_append]
    repeat' split
    all_goals simp
  | [a, b, d], hn, hr =>
    subst hr
    have h4 : n = 2 := by
      revert h
      unfold esc
      simp only [List.cons_append, List.nil_append]
      repeat' split
      all_goals simp
      all_goals (try (rintro _ _ rfl)) <;> simp at hn <;> omega
    subst h4
    revert h
    unfold esc
    simp only [List.cons_append, List.nil_append]
    repeat' split
    all_goals simp
  | a :: b :: d :: e :: u, hn, hr =>
    subst hr
    revert h
    unfold esc
    simp only [List.cons_append]
    exact id

theorem txt_nil (acc : List UInt8) : txt acc [] = .quote := by rw [txt]
/-- A text's reading does not look behind its closing quote; the text is short. -/
theorem txt_split : ∀ (k : Nat) (acc r t rest : List UInt8), r.length ≤ k → txt acc r = .ok t rest → acc.length ≤ 255 → ∃ u, r = u ++ rest ∧ txt acc u = .ok t [] ∧ t.length ≤ 255
  | _, acc, [], t, rest, _, h, _ => by rw [txt] at h; cases h
  | 0, acc, a :: _, t, rest, hk, _, _ => by simp at hk
  | k + 1, acc, a :: r, t, rest, hk, h, ha => by
    rw [txt] at h
    by_cases h1 : a.toNat < 32
    · rw [if_pos h1] at h; cases h
    rw [if_neg h1] at h
    by_cases h2 : a.toNat = 34
    · rw [if_pos h2] at h
      cases h
      exact ⟨[a], rfl, by rw [txt, if_neg h1, if_pos h2], ha⟩
    rw [if_neg h2] at h
    by_cases h3 : a.toNat = 92
    · rw [if_pos h3] at h
      split at h
      · cases h
      · rename_i c n he
        by_cases h4 : acc.length = 255
        · rw [if_pos h4] at h; cases h
        rw [if_neg h4] at h
        have hl := esc_len he
        obtain ⟨u, hu1, hu2, hu3⟩ := txt_split k (acc ++ [c]) ((a :: r).drop n) t rest (by rw [List.length_drop]; simp at hk ⊢; omega) h (by simp; omega)
        have hr : a :: r = ((a :: r).take n ++ u) ++ rest := by rw [List.append_assoc, ← hu1, List.take_append_drop]
        have hln : ((a :: r).take n).length = n := by rw [List.length_take]; omega
        have he2 := esc_self he hr (by rw [List.length_append]; omega)
        refine ⟨(a :: r).take n ++ u, hr, ?_, hu3⟩
        obtain ⟨m, rfl⟩ : ∃ m, n = m + 1 := ⟨n - 1, by omega⟩
        have hc : (a :: r).take (m + 1) ++ u = a :: (r.take m ++ u) := rfl
        rw [hc] at he2 ⊢
        rw [txt, if_neg h1, if_neg h2, if_pos h3]
        split
        · rename_i h5; rw [he2] at h5; cases h5
        · rename_i c' n' h5
          rw [he2] at h5
          cases h5
          rw [if_neg h4]
          have hd : (a :: (r.take m ++ u)).drop (m + 1) = u := by
            rw [List.drop_succ_cons, List.drop_append_of_le_length (by rw [List.length_take]; simp at hl; omega)]
            rw [List.drop_eq_nil_of_le (by rw [List.length_take]; omega), List.nil_append]
          rw [hd]
          exact hu2
    · rw [if_neg h3] at h
      by_cases h4 : acc.length = 255
      · rw [if_pos h4] at h; cases h
      rw [if_neg h4] at h
      obtain ⟨u, hu1, hu2, hu3⟩ := txt_split k (acc ++ [a]) r t rest (by simp at hk; omega) h (by simp; omega)
      exact ⟨a :: u, by rw [hu1]; rfl, by rw [txt, if_neg h1, if_neg h2, if_neg h3, if_neg h4]; exact hu2, hu3⟩

end Pl
end Go.Proofs.YtncdjkdpoinfaaaGreatDoor
/-
  Gaps apart, tokens alone: in plain Lean. No program in sight.
-/
namespace Go.Proofs.YtncdjkdpoinfaaaGreatDoor
namespace Pl

/-- A gap ends where a gap has nothing to go over; what it went over is a gap and nothing else. -/
theorem gap_split : ∀ (k : Nat) (m : Md) (r rest : List UInt8), r.length ≤ k → gap m r = .inl rest → gap .out rest = .inl rest ∧ ∃ u, r = u ++ rest ∧ gap m u = .inl [] := by
  intro k
  induction k with
  | zero =>
    intro m r rest hk h
    have hr : r = [] := List.length_eq_zero_iff.1 (by omega)
    subst hr
    cases m with
    | out => rw [gap] at h; cases h; exact ⟨by rw [gap], [], rfl, by rw [gap]⟩
    | line => rw [gap] at h; cases h; exact ⟨by rw [gap], [], rfl, by rw [gap]⟩
    | block d st => rw [gap] at h; cases h
  | succ k ih =>
    intro m r rest hk h
    cases m with
    | out =>
      match r, hk, h with
      | [], _, h => rw [gap] at h; cases h; exact ⟨by rw [gap], [], rfl, by rw [gap]⟩
      | [a], _, h =>
        by_cases h1 : isB a = true
        · rw [gap, if_pos h1, gap] at h
          cases h
          exact ⟨by rw [gap], [a], rfl, by rw [gap, if_pos h1, gap]⟩
        by_cases h2 : a.toNat = 37
        · rw [gap, if_neg h1, if_pos h2, gap] at h
          cases h
          exact ⟨by rw [gap], [a], rfl, by rw [gap, if_neg h1, if_pos h2, gap]⟩
        · rw [gap, if_neg h1, if_neg h2] at h
          cases h
          exact ⟨by rw [gap, if_neg h1, if_neg h2], [], rfl, by rw [gap]⟩
      | a :: b :: r, hk, h =>
        by_cases h1 : isB a = true
        · rw [gap, if_pos h1] at h
          obtain ⟨e1, u, e2, e3⟩ := ih .out (b :: r) rest (by simp at hk ⊢; omega) h
          refine ⟨e1, a :: u, by rw [e2]; rfl, ?_⟩
          cases u with
          | nil => rw [gap, if_pos h1]; exact e3
          | cons c u => rw [gap, if_pos h1]; exact e3
        by_cases h2 : a.toNat = 37
        · rw [gap, if_neg h1, if_pos h2] at h
          obtain ⟨e1, u, e2, e3⟩ := ih .line (b :: r) rest (by simp at hk ⊢; omega) h
          refine ⟨e1, a :: u, by rw [e2]; rfl, ?_⟩
          cases u with
          | nil => rw [gap, if_neg h1, if_pos h2]; exact e3
          | cons c u => rw [gap, if_neg h1, if_pos h2]; exact e3
        by_cases h3 : a.toNat = 47 ∧ b.toNat = 42
        · rw [gap, if_neg h1, if_neg h2, if_pos h3] at h
          obtain ⟨e1, u, e2, e3⟩ := ih (.block 1 (a :: b :: r)) r rest (by simp at hk ⊢; omega) h
          refine ⟨e1, a :: b :: u, by rw [e2]; rfl, ?_⟩
          rw [gap, if_neg h1, if_neg h2, if_pos h3]
          have key : ∀ (k : Nat) (d : Nat) (st st' u : List UInt8), u.length ≤ k → gap (.block d st) u = .inl [] → gap (.block d st') u = .inl [] := by
            intro k
            induction k with
            | zero =>
              intro d st st' u hk h
              have hr : u = [] := List.length_eq_zero_iff.1 (by omega)
              subst hr
              rw [gap] at h; cases h
            | succ k ih =>
              intro d st st' u hk h
              match u, hk, h with
              | [], _, h => rw [gap] at h; cases h
              | [_], _, h => rw [gap] at h; cases h
              | a :: b :: u, hk, h =>
                rw [gap] at h ⊢
                split
                · rename_i c; rw [if_pos c] at h; exact ih _ _ _ _ (by simp at hk; omega) h
                · rename_i c; rw [if_neg c] at h
                  split
                  · rename_i c; rw [if_pos c] at h
                    split
                    · rename_i c; rw [if_pos c] at h; exact h
                    · rename_i c; rw [if_neg c] at h; exact ih _ _ _ _ (by simp at hk; omega) h
                  · rename_i c; rw [if_neg c] at h; exact ih _ _ _ _ (by simp at hk ⊢; omega) h
          exact key u.length 1 _ _ u (Nat.le_refl _) e3
        · rw [gap, if_neg h1, if_neg h2, if_neg h3] at h
          cases h
          exact ⟨by rw [gap, if_neg h1, if_neg h2, if_neg h3], [], rfl, by rw [gap]⟩
    | line =>
      match r, hk, h with
      | [], _, h => rw [gap] at h; cases h; exact ⟨by rw [gap], [], rfl, by rw [gap]⟩
      | a :: r, hk, h =>
        by_cases h1 : a.toNat = 10
        · rw [gap, if_pos h1] at h
          obtain ⟨e1, u, e2, e3⟩ := ih .out r rest (by simp at hk; omega) h
          exact ⟨e1, a :: u, by rw [e2]; rfl, by rw [gap, if_pos h1]; exact e3⟩
        · rw [gap, if_neg h1] at h
          obtain ⟨e1, u, e2, e3⟩ := ih .line r rest (by simp at hk; omega) h
          exact ⟨e1, a :: u, by rw [e2]; rfl, by rw [gap, if_neg h1]; exact e3⟩
    | block d st =>
      match r, hk, h with
      | [], _, h => rw [gap] at h; cases h
      | [_], _, h => rw [gap] at h; cases h
      | a :: b :: r, hk, h =>
        by_cases h1 : a.toNat = 47 ∧ b.toNat = 42
        · rw [gap, if_pos h1] at h
          obtain ⟨e1, u, e2, e3⟩ := ih _ r rest (by simp at hk; omega) h
          exact ⟨e1, a :: b :: u, by rw [e2]; rfl, by rw [gap, if_pos h1]; exact e3⟩
        by_cases h2 : a.toNat = 42 ∧ b.toNat = 47
        · by_cases h3 : d = 1
          · rw [gap, if_neg h1, if_pos h2, if_pos h3] at h
            obtain ⟨e1, u, e2, e3⟩ := ih _ r rest (by simp at hk; omega) h
            exact ⟨e1, a :: b :: u, by rw [e2]; rfl, by rw [gap, if_neg h1, if_pos h2, if_pos h3]; exact e3⟩
          · rw [gap, if_neg h1, if_pos h2, if_neg h3] at h
            obtain ⟨e1, u, e2, e3⟩ := ih _ r rest (by simp at hk; omega) h
            exact ⟨e1, a :: b :: u, by rw [e2]; rfl, by rw [gap, if_neg h1, if_pos h2, if_neg h3]; exact e3⟩
        · rw [gap, if_neg h1, if_neg h2] at h
          obtain ⟨e1, u, e2, e3⟩ := ih (.block d st) (b :: r) rest (by simp at hk ⊢; omega) h
          cases u with
          | nil =>
            rw [gap] at e3; cases e3
          | cons c u =>
            rw [List.cons_append, List.cons.injEq] at e2
            obtain ⟨rfl, e2⟩ := e2
            exact ⟨e1, a :: b :: u, by rw [e2]; rfl, by rw [gap, if_neg h1, if_neg h2]; exact e3⟩

theorem take_while (p : UInt8 → Bool) : ∀ f : List UInt8, f.take (f.takeWhile p).length = f.takeWhile p
  | [] => rfl
  | c :: r => by
    rw [List.takeWhile_cons]
    split
    · rw [List.length_cons, List.take_succ_cons, take_while p r]
    · rfl

inductive TokOk : List UInt8 → Nat → Nat → List UInt8 → Int → Prop
  | int (w f : List UInt8) (v : Int) : (w = f ∨ ∃ c, w = c :: f ∧ c.toNat = 45) → f ≠ [] → f.all isD = true → intV w = some v → TokOk w 3 0 [] v
  | no (w : List UInt8) : w.map (·.toNat) = [110, 111, 116] → TokOk w 10 0 [] 0
  | name (c : UInt8) (r : List UInt8) : (c :: r).all isW = true → (c :: r).length ≤ 64 → (c :: r).map (·.toNat) ≠ [110, 111, 116] → isL c = true → TokOk (c :: r) 1 0 (c :: r) 0
  | var (c : UInt8) (r : List UInt8) : (c :: r).all isW = true → (c :: r).length ≤ 64 → isL c = false → isD c = false → TokOk (c :: r) 2 0 (c :: r) 0
  | text (c : UInt8) (w t : List UInt8) : c.toNat = 34 → txt [] w = .ok t [] → t.length ≤ 255 → TokOk (c :: w) 4 0 t 0
  | sign (w : List UInt8) (p : List Nat) (kind op : Nat) : (p, kind, op) ∈ signs → w.map (·.toNat) = p → TokOk w kind op [] 0
/-- A token is as long as it can be. -/
def Munch (kind op : Nat) (rest : List UInt8) : Prop :=
  (kind ≤ 3 ∨ kind = 10 → hdNot isW rest) ∧ (kind = 11 ∧ (op = 3 ∨ op = 5) → hdNot (fun c => decide (c.toNat = 61)) rest)

theorem pre_split {p : List Nat} {r : List UInt8} (h : pre p r = true) : r = r.take p.length ++ r.drop p.length ∧ (r.take p.length).map (·.toNat) = p := ⟨(List.take_append_drop _ _).symm, of_decide_eq_true h⟩

theorem next_tok {r : List UInt8} {kind op : Nat} {text rest : List UInt8} {int : Int} (h : next r = .tok kind op text int rest) : ∃ w, r = w ++ rest ∧ w ≠ [] ∧ TokOk w kind op text int ∧ Munch kind op rest := by
  cases r with
  | nil => rw [next] at h; cases h
  | cons c r =>
    have hint : ∀ (f : List UInt8) (hf : (c :: r) = f ∨ (c :: r) = c :: f ∧ c.toNat = 45) (h1 : ∃ d f', f = d :: f' ∧ isD d = true), nextInt (c :: r) f = .tok kind op text int rest → ∃ w, c :: r = w ++ rest ∧ w ≠ [] ∧ TokOk w kind op text int ∧ Munch kind op rest := by
      intro f hf ⟨d, f', hd1, hd2⟩ h
      unfold nextInt at h
      split at h
      · rename_i hall
        split at h
        · rename_i v hv
          cases h
          have hsp := while_split isW f
          have htw : f.takeWhile isW ≠ [] := by
            rw [hd1, List.takeWhile_cons, if_pos (by unfold isW; rw [hd2]; rfl)]; simp
          refine ⟨(c :: r).take ((c :: r).length - (f.dropWhile isW).length), ?_, ?_, ?_, fun _ => while_hd isW f, fun h => by omega⟩
          · rcases hf with e | ⟨e, _⟩
            · rw [e]
              have : f.take (f.length - (f.dropWhile isW).length) = f.takeWhile isW := by
                have h5 : f.length - (f.dropWhile isW).length = (f.takeWhile isW).length := by
                  have := congrArg List.length hsp
                  rw [List.length_append] at this; omega
                rw [h5]; exact take_while isW f
              rw [this]; exact hsp
            · rw [e]
              have : (c :: f).take ((c :: f).length - (f.dropWhile isW).length) = c :: f.takeWhile isW := by
                have h5 : (c :: f).length - (f.dropWhile isW).length = (f.takeWhile isW).length + 1 := by
                  have := congrArg List.length hsp
                  rw [List.length_append] at this; simp; omega
                rw [h5, List.take_succ_cons, take_while isW f]
              rw [this, List.cons_append, ← hsp]
          · have h5 := congrArg List.length hsp
            rw [List.length_append] at h5
            have h6 : 0 < (f.takeWhile isW).length := by
              rcases hh : f.takeWhile isW with _ | ⟨x, y⟩
              · exact absurd hh htw
              · simp
            intro e
            have h7 := congrArg List.length e
            rw [List.length_take] at h7
            have h8 : f.length ≤ (c :: r).length := by rcases hf with e | ⟨e, _⟩ <;> rw [e] <;> simp
            simp at h7 h8
            omega
          · refine TokOk.int _ (f.takeWhile isW) _ ?_ htw hall hv
            rcases hf with e | ⟨e, e2⟩
            · left
              rw [e]
              have h5 : f.length - (f.dropWhile isW).length = (f.takeWhile isW).length := by
                have := congrArg List.length hsp
                rw [List.length_append] at this; omega
              rw [h5]; exact take_while isW f
            · right
              refine ⟨c, ?_, e2⟩
              rw [e]
              have h5 : (c :: f).length - (f.dropWhile isW).length = (f.takeWhile isW).length + 1 := by
                have := congrArg List.length hsp
                rw [List.length_append] at this; simp; omega
              rw [h5, List.take_succ_cons, take_while isW f]
        · cases h
      · cases h
    unfold next at h
    simp only at h
    by_cases h1 : isD c = true
    · rw [if_pos h1] at h
      exact hint (c :: r) (.inl rfl) ⟨c, r, rfl, h1⟩ h
    rw [if_neg h1] at h
    by_cases h2 : c.toNat = 45 ∧ hdP isD r = true
    · rw [if_pos h2] at h
      cases r with
      | nil => exact absurd h2.2 (by simp [hdP])
      | cons d r => exact hint (d :: r) (.inr ⟨rfl, h2.1⟩) ⟨d, r, rfl, h2.2⟩ h
    · rw [if_neg h2] at h
      by_cases h3 : isW c = true
      · rw [if_pos h3] at h
        unfold nextWord at h
        have hsp := while_split isW (c :: r)
        have htw : (c :: r).takeWhile isW = c :: r.takeWhile isW := by rw [List.takeWhile_cons, if_pos h3]
        have hall := while_all isW (c :: r)
        have hhd := while_hd isW (c :: r)
        split at h
        · cases h
        · rename_i h4
          split at h
          · rename_i h5
            cases h
            exact ⟨_, hsp, by rw [htw]; simp, TokOk.no _ h5, fun _ => hhd, fun h => by omega⟩
          · rename_i h5
            rw [htw] at h4 h5 hall hsp
            split at h
            · rename_i h6
              cases h
              refine ⟨_, hsp, by simp, ?_, fun _ => hhd, fun h => by omega⟩
              rw [htw]
              exact TokOk.name c _ hall (by omega) h5 h6
            · rename_i h6
              cases h
              refine ⟨_, hsp, by simp, ?_, fun _ => hhd, fun h => by omega⟩
              rw [htw]
              exact TokOk.var c _ hall (by omega) (by simpa [hdP] using h6) (by simpa using h1)
      · rw [if_neg h3] at h
        by_cases h4 : c.toNat = 34
        · rw [if_pos h4] at h
          unfold nextText at h
          cases he : txt [] r with
          | quote => rw [he] at h; cases h
          | esc x => rw [he] at h; cases h
          | long => rw [he] at h; cases h
          | ok t rs =>
            rw [he] at h
            cases h
            obtain ⟨u, hu1, hu2, hu3⟩ := txt_split r.length [] r _ _ (Nat.le_refl _) he (by simp)
            exact ⟨c :: u, by rw [hu1]; rfl, by simp, TokOk.text c u _ h4 hu2 hu3, fun h => by omega, fun h => by omega⟩
        · rw [if_neg h4] at h
          unfold nextSign at h
          split at h
          · rename_i p kd o hf
            cases h
            have hm := List.mem_of_find?_eq_some hf
            have hp : pre p (c :: r) = true := by simpa using List.find?_some hf
            obtain ⟨hs1, hs2⟩ := pre_split hp
            refine ⟨_, hs1, ?_, TokOk.sign _ p _ _ hm hs2, ?_, ?_⟩
            · intro e
              rw [e] at hs2
              simp only [List.map_nil] at hs2
              subst hs2
              simp [signs] at hm
            · intro hk
              simp only [signs, List.mem_cons, Prod.mk.injEq, List.not_mem_nil, or_false] at hm
              omega
            · rintro ⟨hk, ho⟩
              simp only [signs, List.mem_cons, Prod.mk.injEq, List.not_mem_nil, or_false] at hm
              have hp2 : (p = [60] ∧ op = 3) ∨ (p = [62] ∧ op = 5) := by
                rcases hm with h | h | h | h | h | h | h | h | h | h | h <;> obtain ⟨e1, e2, e3⟩ := h <;> first | exact .inl ⟨e1, e3⟩ | exact .inr ⟨e1, e3⟩ | (exfalso; omega)
              have hlen : p.length = 1 := by rcases hp2 with ⟨e, _⟩ | ⟨e, _⟩ <;> rw [e] <;> rfl
              rw [hlen] at hs2 ⊢
              simp only [List.take_succ_cons, List.take_zero, List.map_cons, List.map_nil] at hs2
              simp only [List.drop_succ_cons, List.drop_zero]
              cases r with
              | nil => trivial
              | cons d r =>
                show decide (d.toNat = 61) = false
                rw [decide_eq_false_iff_not]
                intro hd
                rcases hp2 with ⟨e1, e2⟩ | ⟨e1, e2⟩
                · rw [e1] at hs2
                  have hc : c.toNat = 60 := by simpa using hs2
                  have hf2 : signs.find? (fun s => pre s.1 (c :: d :: r)) = some ([60, 61], 11, 4) := by simp [signs, List.find?, pre, hc, hd]
                  rw [hf2] at hf
                  simp at hf
                  omega
                · rw [e1] at hs2
                  have hc : c.toNat = 62 := by simpa using hs2
                  have hf2 : signs.find? (fun s => pre s.1 (c :: d :: r)) = some ([62, 61], 11, 6) := by simp [signs, List.find?, pre, hc, hd]
                  rw [hf2] at hf
                  simp at hf
                  omega
          · cases h

/-- A token alone is that token. -/
theorem tok_self {w text : List UInt8} {kind op : Nat} {int : Int} (h : TokOk w kind op text int) : gap .out w = .inl w ∧ next w = .tok kind op text int [] := by
  have hgap : ∀ (c : UInt8) (r : List UInt8), isB c = false → c.toNat ≠ 37 → c.toNat ≠ 47 → gap .out (c :: r) = .inl (c :: r) := fun c r h1 h2 h3 => by
    cases r with
    | nil => rw [gap, if_neg (by simp [h1]), if_neg h2]
    | cons d r => rw [gap, if_neg (by simp [h1]), if_neg h2, if_neg (fun h => h3 h.1)]
  have hw : ∀ c : UInt8, isW c = true → isB c = false ∧ c.toNat ≠ 37 ∧ c.toNat ≠ 47 := fun c h => by
    simp only [isW, isD, isU, isL, isB, Bool.or_eq_true, Bool.and_eq_true, decide_eq_true_eq, Bool.or_eq_false_iff, decide_eq_false_iff_not] at h ⊢
    omega
  have hall : ∀ f : List UInt8, f.all isD = true → f.all isW = true := fun f h => by
    rw [List.all_eq_true] at h ⊢
    intro x hx
    unfold isW
    rw [h x hx]; rfl
  cases h with
  | int w f v h1 h2 h3 h4 =>
    obtain ⟨d, f', hf⟩ : ∃ d f', f = d :: f' := by
      cases f with
      | nil => exact absurd rfl h2
      | cons d f' => exact ⟨d, f', rfl⟩
    subst hf
    have hd : isD d = true := by rw [List.all_cons, Bool.and_eq_true] at h3; exact h3.1
    have hd2 : isW d = true := by unfold isW; rw [hd]; rfl
    obtain ⟨e1, e2⟩ := while_self (hall _ h3)
    rcases h1 with rfl | ⟨c, rfl, hc⟩
    · obtain ⟨a1, a2, a3⟩ := hw d hd2
      refine ⟨hgap _ _ a1 a2 a3, ?_⟩
      unfold next
      simp only
      rw [if_pos hd]
      unfold nextInt
      rw [e1, e2, if_pos h3]
      simp only [List.length_nil, Nat.sub_zero, List.take_length, h4]
    · refine ⟨hgap _ _ (by simp [isB, hc]) (by omega) (by omega), ?_⟩
      unfold next
      simp only
      have hnd : isD c = false := by simp [isD, hc]
      rw [if_neg (by simp [hnd]), if_pos ⟨hc, hd⟩]
      unfold nextInt
      rw [e1, e2, if_pos h3]
      simp only [List.length_nil, Nat.sub_zero, List.take_length, h4]
  | no w h1 =>
    match w, h1 with
    | [a, b, c], h1 =>
      simp only [List.map_cons, List.map_nil, List.cons.injEq, and_true] at h1
      obtain ⟨ha, hb, hc⟩ := h1
      have wa : isW a = true := by simp [isW, isL, ha]
      have wb : isW b = true := by simp [isW, isL, hb]
      have wc : isW c = true := by simp [isW, isL, hc]
      obtain ⟨a1, a2, a3⟩ := hw a wa
      refine ⟨hgap _ _ a1 a2 a3, ?_⟩
      unfold next
      simp only
      have hnd : isD a = false := by simp [isD, ha]
      rw [if_neg (by simp [hnd]), if_neg (by omega), if_pos wa]
      obtain ⟨e1, e2⟩ := while_self (p := isW) (w := [a, b, c]) (by simp [wa, wb, wc])
      unfold nextWord
      rw [e1, e2, if_neg (by simp), if_pos (by simp [ha, hb, hc])]
    | [], h1 => simp at h1
    | [_], h1 => simp at h1
    | [_, _], h1 => simp at h1
    | _ :: _ :: _ :: _ :: _, h1 => simp at h1
  | name c r h1 h2 h3 h4 =>
    have wc : isW c = true := by rw [List.all_cons, Bool.and_eq_true] at h1; exact h1.1
    obtain ⟨a1, a2, a3⟩ := hw c wc
    refine ⟨hgap _ _ a1 a2 a3, ?_⟩
    have hl : 97 ≤ c.toNat := by unfold isL at h4; simp at h4; exact h4.1
    unfold next
    simp only
    rw [if_neg (by simp [isD]; omega), if_neg (by omega), if_pos wc]
    obtain ⟨e1, e2⟩ := while_self h1
    unfold nextWord
    rw [e1, e2, if_neg (by omega), if_neg h3, if_pos (show hdP isL (c :: r) = true from h4)]
  | var c r h1 h2 h3 h4 =>
    have wc : isW c = true := by rw [List.all_cons, Bool.and_eq_true] at h1; exact h1.1
    obtain ⟨a1, a2, a3⟩ := hw c wc
    refine ⟨hgap _ _ a1 a2 a3, ?_⟩
    unfold next
    simp only
    have hu : c.toNat ≠ 45 := by
      simp only [isW, isD, isU, isL, Bool.or_eq_true, Bool.and_eq_true, decide_eq_true_eq] at wc; omega
    rw [if_neg (by simp [h4]), if_neg (fun h => hu h.1), if_pos wc]
    obtain ⟨e1, e2⟩ := while_self h1
    unfold nextWord
    rw [e1, e2, if_neg (by omega), if_neg ?_, if_neg (show ¬ hdP isL (c :: r) = true by show ¬ isL c = true; simp [h3])]
    intro hm
    simp only [List.map_cons, List.cons.injEq] at hm
    simp [isL, hm.1] at h3
  | text c w t h1 h2 h3 =>
    refine ⟨hgap _ _ (by simp [isB, h1]) (by omega) (by omega), ?_⟩
    unfold next
    simp only
    rw [if_neg (by simp [isD, h1]), if_neg (by omega), if_neg (by simp [isW, isD, isU, isL, h1]), if_pos h1]
    unfold nextText
    rw [h2]
  | sign w p kind op h1 h2 =>
    simp only [signs, List.mem_cons, Prod.mk.injEq, List.not_mem_nil, or_false] at h1
    have two : ∀ x y : Nat, p = [x, y] → ∃ a b, w = [a, b] ∧ a.toNat = x ∧ b.toNat = y := fun x y hp => by
      subst hp
      match w, h2 with
      | [a, b], h2 => simp at h2; exact ⟨a, b, rfl, h2.1, h2.2⟩
      | [], h2 => simp at h2
      | [_], h2 => simp at h2
      | _ :: _ :: _ :: _, h2 => simp at h2
    have one : ∀ x : Nat, p = [x] → ∃ a, w = [a] ∧ a.toNat = x := fun x hp => by
      subst hp
      match w, h2 with
      | [a], h2 => simp at h2; exact ⟨a, rfl, h2⟩
      | [], h2 => simp at h2
      | _ :: _ :: _, h2 => simp at h2
    rcases h1 with h | h | h | h | h | h | h | h | h | h | h <;> obtain ⟨rfl, rfl, rfl⟩ := h
    all_goals first
      | (obtain ⟨a, b, rfl, ha, hb⟩ := two _ _ rfl
         refine ⟨hgap _ _ (by simp [isB, ha]) (by omega) (by omega), ?_⟩
         unfold next
         simp only
         rw [if_neg (by simp [isD, ha]), if_neg (by rintro ⟨h, _⟩; omega), if_neg (by simp [isW, isD, isU, isL, ha]), if_neg (by omega)]
         unfold nextSign
         simp [signs, List.find?, pre, ha, hb])
      | (obtain ⟨a, rfl, ha⟩ := one _ rfl
         refine ⟨hgap _ _ (by simp [isB, ha]) (by omega) (by omega), ?_⟩
         unfold next
         simp only
         rw [if_neg (by simp [isD, ha]), if_neg (by rintro ⟨h, _⟩; omega), if_neg (by simp [isW, isD, isU, isL, ha]), if_neg (by omega)]
         unfold nextSign
         simp [signs, List.find?, pre, ha])

end Pl
end Go.Proofs.YtncdjkdpoinfaaaGreatDoor
/-
  The library's reading of an integer is the plain one. No condition beyond those that each lemma states.
-/
namespace Go.Proofs.YtncdjkdpoinfaaaGreatDoor
namespace Pl

theorem digV_ge : ∀ (f : List UInt8) (acc : Nat), acc ≤ digV acc f
  | [], _ => Nat.le_refl _
  | c :: r, acc => by
    have := digV_ge r (acc * 10 + (c.toNat - 48))
    show acc ≤ digV (acc * 10 + (c.toNat - 48)) r
    omega
theorem uint_dig : ∀ (f : List UInt8) (acc : Nat), acc ≤ 18446744073709551615 → f.all isD = true → Lib.parseUintM 18446744073709551615 acc f = if digV acc f ≤ 18446744073709551615 then .ok (digV acc f) else .range
  | [], acc, h, _ => by
    rw [Lib.parseUintM]
    show _ = if acc ≤ _ then _ else _
    rw [if_pos h]; rfl
  | c :: r, acc, h, hd => by
    rw [List.all_cons, Bool.and_eq_true] at hd
    have hc : 48 ≤ c.toNat ∧ c.toNat ≤ 57 := by
      have := hd.1
      simp only [isD, Bool.and_eq_true, decide_eq_true_eq] at this
      exact this
    rw [Lib.parseUintM, if_pos hc]
    have e : digV acc (c :: r) = digV (acc * 10 + (c.toNat - 48)) r := rfl
    rw [e]
    have hge := digV_ge r (acc * 10 + (c.toNat - 48))
    by_cases h1 : 1844674407370955162 ≤ acc
    · rw [if_pos h1, if_neg (by omega)]
    rw [if_neg h1]
    by_cases h2 : 18446744073709551615 < acc * 10 + (c.toNat - 48)
    · rw [if_pos h2, if_neg (by omega)]
    rw [if_neg h2]
    exact uint_dig r _ (by omega) hd.2
/-- A spelling of an integer: digits, a minus ahead of them perhaps. -/
def IntSp (w : List UInt8) : Prop := ∃ f, (w = f ∨ ∃ c, w = c :: f ∧ c.toNat = 45) ∧ f ≠ [] ∧ f.all isD = true
theorem int_parse {w : List UInt8} (h : IntSp w) : Lib.parseIntB 64 w = match intV w with | some v => .ok v | none => .range := by
  obtain ⟨f, h1, h2, h3⟩ := h
  have hu := uint_dig f 0 (by omega) h3
  have hub : Lib.parseUintB 64 f = if digV 0 f ≤ 18446744073709551615 then .ok (digV 0 f) else .range := by
    unfold Lib.parseUintB
    rw [if_neg h2]
    exact hu
  rcases h1 with rfl | ⟨c, rfl, hc⟩
  · cases w with
    | nil => exact absurd rfl h2
    | cons d r =>
      have hd : 48 ≤ d.toNat ∧ d.toNat ≤ 57 := by
        rw [List.all_cons, Bool.and_eq_true] at h3
        have := h3.1
        simp only [isD, Bool.and_eq_true, decide_eq_true_eq] at this
        exact this
      unfold Lib.parseIntB intV
      simp only
      rw [if_neg (show ¬ (d.toNat = 43 ∨ d.toNat = 45) by omega), hub, if_neg (show ¬ d.toNat = 45 by omega)]
      by_cases h5 : digV 0 (d :: r) ≤ 18446744073709551615
      · rw [if_pos h5]
        simp only
        by_cases h6 : digV 0 (d :: r) < 9223372036854775808
        · rw [if_pos h6, if_neg (by omega), if_neg (by omega), if_neg (by omega)]
        · rw [if_neg h6, if_pos ⟨by omega, by omega⟩]
      · rw [if_neg h5, if_neg (by omega)]
  · unfold Lib.parseIntB intV
    simp only
    rw [if_pos (show c.toNat = 43 ∨ c.toNat = 45 by omega), hub, if_pos hc]
    by_cases h5 : digV 0 f ≤ 18446744073709551615
    · rw [if_pos h5]
      simp only
      by_cases h6 : digV 0 f ≤ 9223372036854775808
      · rw [if_pos h6, if_neg (by omega), if_neg (by omega), if_pos hc]
      · rw [if_neg h6, if_neg (by omega), if_pos ⟨hc, by omega⟩]
    · rw [if_neg h5, if_neg (by omega)]

end Pl
end Go.Proofs.YtncdjkdpoinfaaaGreatDoor
/-
  One step of a gap, of a text: in plain Lean. No program in sight.
-/
namespace Go.Proofs.YtncdjkdpoinfaaaGreatDoor
namespace Pl

theorem gap_blank {a : UInt8} {r : List UInt8} (h : isB a = true) : gap .out (a :: r) = gap .out r := by
  cases r with
  | nil => conv => lhs; rw [gap, if_pos h]
  | cons b r => rw [gap, if_pos h]
theorem gap_mark {a : UInt8} {r : List UInt8} (h : a.toNat = 37) : gap .out (a :: r) = gap .line r := by
  have h1 : ¬ isB a = true := by simp [isB, h]
  cases r with
  | nil => rw [gap, if_neg h1, if_pos h]
  | cons b r => rw [gap, if_neg h1, if_pos h]
theorem gap_open {a b : UInt8} {r : List UInt8} (h : a.toNat = 47) (h2 : b.toNat = 42) : gap .out (a :: b :: r) = gap (.block 1 (a :: b :: r)) r := by
  rw [gap, if_neg (by simp [isB, h]), if_neg (by omega), if_pos ⟨h, h2⟩]
theorem gap_stop {a : UInt8} {r : List UInt8} (h1 : isB a = false) (h2 : a.toNat ≠ 37) (h3 : ¬ (a.toNat = 47 ∧ hdP (fun c => decide (c.toNat = 42)) r = true)) : gap .out (a :: r) = .inl (a :: r) := by
  cases r with
  | nil => rw [gap, if_neg (by simp [h1]), if_neg h2]
  | cons b r => rw [gap, if_neg (by simp [h1]), if_neg h2, if_neg (fun h => h3 ⟨h.1, decide_eq_true h.2⟩)]
theorem gap_end : gap .out [] = .inl [] := by rw [gap]
theorem line_end : gap .line [] = gap .out [] := by rw [gap, gap]
theorem line_stop {a : UInt8} {r : List UInt8} (h : a.toNat = 10) : gap .line (a :: r) = gap .out (a :: r) := by
  rw [gap, if_pos h, gap_blank (by simp [isB, h])]
theorem line_step {a : UInt8} {r : List UInt8} (h : a.toNat ≠ 10) : gap .line (a :: r) = gap .line r := by rw [gap, if_neg h]
theorem block_short (d : Nat) (st r : List UInt8) (h : r.length ≤ 1) : gap (.block d st) r = .inr st := by
  match r, h with
  | [], _ => rw [gap]
  | [_], _ => rw [gap]
theorem block_up {a b : UInt8} {r st : List UInt8} {d : Nat} (h : a.toNat = 47) (h2 : b.toNat = 42) : gap (.block d st) (a :: b :: r) = gap (.block (d + 1) st) r := by rw [gap, if_pos ⟨h, h2⟩]
theorem block_down {a b : UInt8} {r st : List UInt8} {d : Nat} (h : a.toNat = 42) (h2 : b.toNat = 47) : gap (.block d st) (a :: b :: r) = if d = 1 then gap .out r else gap (.block (d - 1) st) r := by rw [gap, if_neg (by omega), if_pos ⟨h, h2⟩]
theorem block_step {a b : UInt8} {r st : List UInt8} {d : Nat} (h : ¬ (a.toNat = 47 ∧ b.toNat = 42)) (h2 : ¬ (a.toNat = 42 ∧ b.toNat = 47)) : gap (.block d st) (a :: b :: r) = gap (.block d st) (b :: r) := by rw [gap, if_neg h, if_neg h2]
/-- What stands from an open comment on is a rest of the text. -/
theorem gap_open_rest : ∀ (k : Nat) (m : Md) (r st : List UInt8), r.length ≤ k → gap m r = .inr st → (∃ u, r = u ++ st) ∨ ∃ d, m = .block d st := by
  intro k
  induction k with
  | zero =>
    intro m r st hk h
    have hr : r = [] := List.length_eq_zero_iff.1 (by omega)
    subst hr
    cases m with
    | out => rw [gap] at h; cases h
    | line => rw [gap] at h; cases h
    | block d s => rw [gap] at h; cases h; exact .inr ⟨d, rfl⟩
  | succ k ih =>
    intro m r st hk h
    have up : ∀ (x : UInt8) (r' : List UInt8), (∃ u, r' = u ++ st) → ∃ u, x :: r' = u ++ st := fun x r' ⟨u, e⟩ => ⟨x :: u, by rw [e]; rfl⟩
    cases m with
    | out =>
      match r, hk, h with
      | [], _, h => rw [gap] at h; cases h
      | a :: r, hk, h =>
        by_cases h1 : isB a = true
        · rw [gap_blank h1] at h
          rcases ih .out r st (by simp at hk; omega) h with h2 | ⟨d, h2⟩
          · exact .inl (up a r h2)
          · cases h2
        by_cases h2 : a.toNat = 37
        · rw [gap_mark h2] at h
          rcases ih .line r st (by simp at hk; omega) h with h2 | ⟨d, h2⟩
          · exact .inl (up a r h2)
          · cases h2
        by_cases h3 : a.toNat = 47 ∧ hdP (fun c => decide (c.toNat = 42)) r = true
        · cases r with
          | nil => exact absurd h3.2 (by simp [hdP])
          | cons b r =>
            have hb : b.toNat = 42 := of_decide_eq_true h3.2
            rw [gap_open h3.1 hb] at h
            rcases ih _ r st (by simp at hk; omega) h with h2 | ⟨d, h2⟩
            · exact .inl (up a _ (up b r h2))
            · simp only [Md.block.injEq] at h2
              exact .inl ⟨[], by rw [← h2.2]; rfl⟩
        · rw [gap_stop (by simpa using h1) h2 h3] at h; cases h
    | line =>
      match r, hk, h with
      | [], _, h => rw [gap] at h; cases h
      | a :: r, hk, h =>
        rw [gap] at h
        split at h
        · rcases ih .out r st (by simp at hk; omega) h with h2 | ⟨d, h2⟩
          · exact .inl (up a r h2)
          · cases h2
        · rcases ih .line r st (by simp at hk; omega) h with h2 | ⟨d, h2⟩
          · exact .inl (up a r h2)
          · cases h2
    | block d s =>
      match r, hk, h with
      | [], _, h => rw [gap] at h; cases h; exact .inr ⟨d, rfl⟩
      | [_], _, h => rw [gap] at h; cases h; exact .inr ⟨d, rfl⟩
      | a :: b :: r, hk, h =>
        rw [gap] at h
        split at h
        · rcases ih _ r st (by simp at hk; omega) h with h2 | ⟨d', h2⟩
          · exact .inl (up a _ (up b r h2))
          · simp only [Md.block.injEq] at h2; exact .inr ⟨d, by rw [h2.2]⟩
        · split at h
          · split at h
            · rcases ih _ r st (by simp at hk; omega) h with h2 | ⟨d', h2⟩
              · exact .inl (up a _ (up b r h2))
              · cases h2
            · rcases ih _ r st (by simp at hk; omega) h with h2 | ⟨d', h2⟩
              · exact .inl (up a _ (up b r h2))
              · simp only [Md.block.injEq] at h2; exact .inr ⟨d, by rw [h2.2]⟩
          · rcases ih _ (b :: r) st (by simp at hk ⊢; omega) h with h2 | ⟨d', h2⟩
            · exact .inl (up a _ h2)
            · simp only [Md.block.injEq] at h2; exact .inr ⟨d, by rw [h2.2]⟩

section
variable {acc r t rest : List UInt8} {a c : UInt8} {n : Nat}
theorem txt_low (h : a.toNat < 32) : txt acc (a :: r) = .quote := by rw [txt, if_pos h]
theorem txt_close (h : a.toNat = 34) : txt acc (a :: r) = .ok acc r := by rw [txt, if_neg (by omega), if_pos h]
theorem txt_bad (h : a.toNat = 92) (he : esc (a :: r) = none) : txt acc (a :: r) = .esc (a :: r) := by
  rw [txt, if_neg (by omega), if_neg (by omega), if_pos h]
  split
  · rfl
  · rename_i h5; rw [he] at h5; cases h5
theorem txt_esc (h : a.toNat = 92) (he : esc (a :: r) = some (c, n)) : txt acc (a :: r) = if acc.length = 255 then .long else txt (acc ++ [c]) ((a :: r).drop n) := by
  rw [txt, if_neg (by omega), if_neg (by omega), if_pos h]
  split
  · rename_i h5; rw [he] at h5; cases h5
  · rename_i h5; rw [he] at h5; cases h5; rfl
theorem txt_byte (h1 : ¬ a.toNat < 32) (h2 : a.toNat ≠ 34) (h3 : a.toNat ≠ 92) : txt acc (a :: r) = if acc.length = 255 then .long else txt (acc ++ [a]) r := by
  rw [txt, if_neg h1, if_neg h2, if_neg h3]
end
/-- What was read so far is the begin of what is read. -/
theorem txt_pre : ∀ (k : Nat) (acc r t rest : List UInt8), r.length ≤ k → txt acc r = .ok t rest → ∃ z, t = acc ++ z
  | _, acc, [], t, rest, _, h => by rw [txt] at h; cases h
  | 0, acc, _ :: _, t, rest, hk, _ => by simp at hk
  | k + 1, acc, a :: r, t, rest, hk, h => by
    by_cases h1 : a.toNat < 32
    · rw [txt_low h1] at h; cases h
    by_cases h2 : a.toNat = 34
    · rw [txt_close h2] at h; cases h; exact ⟨[], by simp⟩
    by_cases h3 : a.toNat = 92
    · cases he : esc (a :: r) with
      | none => rw [txt_bad h3 he] at h; cases h
      | some x =>
        obtain ⟨c, n⟩ := x
        rw [txt_esc h3 he] at h
        split at h
        · cases h
        · have hl := esc_len he
          obtain ⟨z, hz⟩ := txt_pre k _ _ t rest (by rw [List.length_drop]; simp at hk ⊢; omega) h
          exact ⟨[c] ++ z, by rw [hz, List.append_assoc]⟩
    · rw [txt_byte h1 h2 h3] at h
      split at h
      · cases h
      · obtain ⟨z, hz⟩ := txt_pre k _ _ t rest (by simp at hk; omega) h
        exact ⟨[a] ++ z, by rw [hz, List.append_assoc]⟩
/-- The last byte of a text's spelling is its quote. -/
theorem txt_last {acc t : List UInt8} {a : UInt8} (h : txt acc [a] = .ok t []) : a.toNat = 34 ∧ t = acc := by
  by_cases h1 : a.toNat < 32
  · rw [txt_low h1] at h; cases h
  by_cases h2 : a.toNat = 34
  · rw [txt_close h2] at h; cases h; exact ⟨h2, rfl⟩
  by_cases h3 : a.toNat = 92
  · have he : esc [a] = none := by unfold esc; rfl
    rw [txt_bad h3 he] at h; cases h
  · rw [txt_byte h1 h2 h3, txt] at h
    split at h <;> cases h
/-- A byte ahead of the last one. -/
theorem txt_more {acc t r : List UInt8} {a b : UInt8} (h : txt acc (a :: b :: r) = .ok t []) : ¬ a.toNat < 32 ∧ a.toNat ≠ 34 ∧
    ((a.toNat = 92 ∧ ∃ c n, esc (a :: b :: r) = some (c, n) ∧ n < r.length + 2 ∧ txt (acc ++ [c]) ((a :: b :: r).drop n) = .ok t []) ∨ (a.toNat ≠ 92 ∧ txt (acc ++ [a]) (b :: r) = .ok t [])) := by
  by_cases h1 : a.toNat < 32
  · rw [txt_low h1] at h; cases h
  by_cases h2 : a.toNat = 34
  · rw [txt_close h2] at h; cases h
  refine ⟨h1, h2, ?_⟩
  by_cases h3 : a.toNat = 92
  · cases he : esc (a :: b :: r) with
    | none => rw [txt_bad h3 he] at h; cases h
    | some x =>
      obtain ⟨c, n⟩ := x
      rw [txt_esc h3 he] at h
      split at h
      · cases h
      · refine .inl ⟨h3, c, n, rfl, ?_, h⟩
        have hl := esc_len he
        rcases Nat.lt_or_ge n (r.length + 2) with h5 | h5
        · exact h5
        · rw [List.drop_eq_nil_of_le (by simpa using h5), txt] at h; cases h
  · rw [txt_byte h1 h2 h3] at h
    split at h
    · cases h
    · exact .inr ⟨h3, h⟩

end Pl
end Go.Proofs.YtncdjkdpoinfaaaGreatDoor
/-
  The tokens of a text, as a relation: in plain Lean. No program in sight.
-/
namespace Go.Proofs.YtncdjkdpoinfaaaGreatDoor
namespace Pl

/-- Behind the first p bytes of the text l come these tokens and this fault (its code, its place). -/
inductive Sc (l : List UInt8) : Nat → List Tk → Nat × Nat → Prop
  | openC (p : Nat) (st : List UInt8) : gap .out (l.drop p) = .inr st → Sc l p [] (16, l.length - st.length)
  | fin (p : Nat) : gap .out (l.drop p) = .inl [] → Sc l p [⟨0, [], 0, 0, l.length, l.length⟩] (0, 0)
  | fault (p : Nat) (r a : List UInt8) (code : Nat) : gap .out (l.drop p) = .inl r → next r = .fault code a → Sc l p [] (code, l.length - a.length)
  | tok (p : Nat) (r rest text : List UInt8) (kind op : Nat) (int : Int) (ts : List Tk) (f : Nat × Nat) : gap .out (l.drop p) = .inl r → next r = .tok kind op text int rest → Sc l (l.length - rest.length) ts f →
      Sc l p (⟨kind, text, int, op, l.length - r.length, l.length - rest.length⟩ :: ts) f
theorem Sc.unique {l : List UInt8} {p : Nat} {ts ts' : List Tk} {f f' : Nat × Nat} (h : Sc l p ts f) (h' : Sc l p ts' f') : ts = ts' ∧ f = f' := by
  induction h generalizing ts' f' with
  | openC p st h1 =>
    cases h' with
    | openC _ st' h2 => rw [h1] at h2; cases h2; exact ⟨rfl, rfl⟩
    | fin _ h2 => rw [h1] at h2; cases h2
    | fault _ r a code h2 h3 => rw [h1] at h2; cases h2
    | tok _ r rest text kind op int ts f h2 h3 h4 => rw [h1] at h2; cases h2
  | fin p h1 =>
    cases h' with
    | openC _ st' h2 => rw [h1] at h2; cases h2
    | fin _ h2 => exact ⟨rfl, rfl⟩
    | fault _ r a code h2 h3 => rw [h1] at h2; cases h2; unfold next at h3; cases h3
    | tok _ r rest text kind op int ts f h2 h3 h4 => rw [h1] at h2; cases h2; unfold next at h3; cases h3
  | fault p r a code h1 h1' =>
    cases h' with
    | openC _ st' h2 => rw [h1] at h2; cases h2
    | fin _ h2 => rw [h1] at h2; cases h2; unfold next at h1'; cases h1'
    | fault _ r a code h2 h3 => rw [h1] at h2; cases h2; rw [h1'] at h3; cases h3; exact ⟨rfl, rfl⟩
    | tok _ r rest text kind op int ts f h2 h3 h4 => rw [h1] at h2; cases h2; rw [h1'] at h3; cases h3
  | tok p r rest text kind op int ts f h1 h1' h1'' ih =>
    cases h' with
    | openC _ st' h2 => rw [h1] at h2; cases h2
    | fin _ h2 => rw [h1] at h2; cases h2; unfold next at h1'; cases h1'
    | fault _ r a code h2 h3 => rw [h1] at h2; cases h2; rw [h1'] at h3; cases h3
    | tok _ r' rest' text' kind' op' int' ts' f' h2 h3 h4 =>
      rw [h1] at h2; cases h2
      rw [h1'] at h3; cases h3
      obtain ⟨e1, e2⟩ := ih h4
      exact ⟨by rw [e1], e2⟩
theorem drop_rest {l w rest : List UInt8} {p : Nat} (h : l.drop p = w ++ rest) : l.drop (l.length - rest.length) = rest := by
  have h1 : l = l.take p ++ (w ++ rest) := by rw [← h, List.take_append_drop]
  obtain ⟨q, hq⟩ : ∃ q, q = l.take p := ⟨_, rfl⟩
  rw [← hq] at h1
  clear hq h
  subst h1
  have e : (q ++ (w ++ rest)).length - rest.length = (q ++ w).length := by simp only [List.length_append]; omega
  rw [e, ← List.append_assoc]
  exact List.drop_left
/-- What a gap and a token behind it are, by place. -/
theorem gap_place {l r : List UInt8} {p : Nat} (h : gap .out (l.drop p) = .inl r) : l.drop (l.length - r.length) = r ∧ r.length ≤ l.length - p := by
  obtain ⟨_, u, e, _⟩ := gap_split (l.drop p).length .out _ _ (Nat.le_refl _) h
  refine ⟨drop_rest e, ?_⟩
  have := congrArg List.length e
  rw [List.length_append, List.length_drop] at this
  omega
theorem scan_Sc (l : List UInt8) : ∀ (k p : Nat), l.length - p < k → p ≤ l.length → Sc l p (scan k l.length (l.drop p)).1 (scan k l.length (l.drop p)).2
  | 0, p, h, _ => by omega
  | k + 1, p, h, hp => by
    rw [scan]
    cases hg : gap .out (l.drop p) with
    | inr st => exact Sc.openC p st hg
    | inl r =>
      obtain ⟨e1, e2⟩ := gap_place hg
      simp only
      cases hn : next r with
      | fin =>
        have hr : r = [] := by
          cases r with
          | nil => rfl
          | cons c r =>
            exfalso
            unfold next at hn
            simp only at hn
            unfold nextInt nextWord nextText nextSign at hn
            repeat' split at hn
            all_goals cases hn
        subst hr
        exact Sc.fin p hg
      | fault code a => exact Sc.fault p r a code hg hn
      | tok kind op text int rest =>
        obtain ⟨w, h1, h2, _⟩ := next_tok hn
        have hl := congrArg List.length h1
        rw [List.length_append] at hl
        have hw : 0 < w.length := by cases w with
          | nil => exact absurd rfl h2
          | cons => simp
        have e3 : l.drop (l.length - rest.length) = rest := by
          rw [h1] at e1
          have := drop_rest (l := l) (p := l.length - (w ++ rest).length) (w := w) (rest := rest) e1
          exact this
        have ih := scan_Sc l k (l.length - rest.length) (by omega) (by omega)
        rw [e3] at ih
        exact Sc.tok p r rest text kind op int _ _ hg hn ih

end Pl
end Go.Proofs.YtncdjkdpoinfaaaGreatDoor
/-
  Digits one by one; a list and its places: in plain Lean. No program in sight.
-/
namespace Go.Proofs.YtncdjkdpoinfaaaGreatDoor
namespace Pl

theorem digV_append : ∀ (a b : List UInt8) (acc : Nat), digV acc (a ++ b) = digV (digV acc a) b
  | [], _, _ => rfl
  | c :: a, b, acc => digV_append a b (acc * 10 + (c.toNat - 48))
theorem digV_next {f : List UInt8} {i : Nat} (h : i < f.length) : digV 0 (f.take (i + 1)) = digV 0 (f.take i) * 10 + (f[i].toNat - 48) := by
  rw [List.take_add_one, List.getElem?_eq_getElem h, digV_append]
  rfl
theorem digV_part (f : List UInt8) (i : Nat) : digV 0 (f.take i) ≤ digV 0 f := by
  conv => rhs; rw [← List.take_append_drop i f, digV_append]
  exact digV_ge _ _
theorem all_at {p : UInt8 → Bool} {f : List UInt8} (h : f.all p = true) {i : Nat} (hi : i < f.length) : p f[i] = true := List.all_eq_true.1 h _ (List.getElem_mem hi)
theorem drop_at {l : List UInt8} {i : Nat} (h : i < l.length) : l.drop i = l[i] :: l.drop (i + 1) := List.drop_eq_getElem_cons h
theorem hdP_at {p : UInt8 → Bool} {l : List UInt8} {i : Nat} (h : i < l.length) : hdP p (l.drop i) = p l[i] := by rw [drop_at h]; rfl
theorem hdP_end {p : UInt8 → Bool} {l : List UInt8} {i : Nat} (h : l.length ≤ i) : hdP p (l.drop i) = false := by rw [List.drop_eq_nil_of_le h]; rfl
/-- Where a run of bytes of a kind ends. -/
theorem run_step {p : UInt8 → Bool} {l : List UInt8} {i : Nat} (h : i < l.length) (hp : p l[i] = true) : (l.drop i).dropWhile p = (l.drop (i + 1)).dropWhile p := by
  rw [drop_at h, List.dropWhile_cons, if_pos hp]
theorem run_stop {p : UInt8 → Bool} {l : List UInt8} {i : Nat} (h : i < l.length) (hp : p l[i] = false) : (l.drop i).dropWhile p = l.drop i := by
  rw [drop_at h, List.dropWhile_cons, if_neg (by simp [hp])]
theorem run_end {p : UInt8 → Bool} {l : List UInt8} {i : Nat} (h : l.length ≤ i) : (l.drop i).dropWhile p = [] := by rw [List.drop_eq_nil_of_le h]; rfl
/-- A run's bytes, by place. -/
theorem run_take {p : UInt8 → Bool} (l : List UInt8) (i : Nat) : (l.drop i).takeWhile p = (l.drop i).take (l.length - i - ((l.drop i).dropWhile p).length) := by
  have h := congrArg List.length (while_split p (l.drop i))
  rw [List.length_append, List.length_drop] at h
  have e : l.length - i - ((l.drop i).dropWhile p).length = ((l.drop i).takeWhile p).length := by omega
  rw [e, take_while]

/-- What a token's spelling looks like, for the eyes that look at it byte by byte. -/
theorem intSp_of {w f : List UInt8} (h1 : w = f ∨ ∃ c, w = c :: f ∧ c.toNat = 45) (h2 : f ≠ []) (h3 : f.all isD = true) : IntSp w := ⟨f, h1, h2, h3⟩

end Pl
end Go.Proofs.YtncdjkdpoinfaaaGreatDoor
