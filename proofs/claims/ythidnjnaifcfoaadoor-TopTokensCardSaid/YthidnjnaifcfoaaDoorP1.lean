/-
  What a text's gaps and tokens are, in plain Lean. No program in sight.
-/
namespace Go.Proofs.YthidnjnaifcfoaaDoor
namespace Pl

def isD (c : UInt8) : Bool := decide (48 ≤ c.toNat) && decide (c.toNat ≤ 57)
def isU (c : UInt8) : Bool := (decide (65 ≤ c.toNat) && decide (c.toNat ≤ 90)) || decide (c.toNat = 95)
def isL (c : UInt8) : Bool := decide (97 ≤ c.toNat) && decide (c.toNat ≤ 122)
def isW (c : UInt8) : Bool := isD c || isU c || isL c
def isB (c : UInt8) : Bool := decide (c.toNat = 32) || decide (c.toNat = 9) || decide (c.toNat = 10) || decide (c.toNat = 13)

/-- Where in a gap one is: between, in a line's comment, in a block comment (its depth, and what stood at its begin). -/
inductive Md where
  | out
  | line
  | block (d : Nat) (start : List UInt8)

/-- What stands behind the gap, or what stands from the block comment on that is not closed. -/
def gap : Md → List UInt8 → List UInt8 ⊕ List UInt8
  | .out, [] => .inl []
  | .out, [a] => if isB a then gap .out [] else if a.toNat = 37 then gap .line [] else .inl [a]
  | .out, a :: b :: r =>
    if isB a then gap .out (b :: r)
    else if a.toNat = 37 then gap .line (b :: r)
    else if a.toNat = 47 ∧ b.toNat = 42 then gap (.block 1 (a :: b :: r)) r
    else .inl (a :: b :: r)
  | .line, [] => .inl []
  | .line, a :: r => if a.toNat = 10 then gap .out r else gap .line r
  | .block _ st, [] => .inr st
  | .block _ st, [_] => .inr st
  | .block d st, a :: b :: r =>
    if a.toNat = 47 ∧ b.toNat = 42 then gap (.block (d + 1) st) r
    else if a.toNat = 42 ∧ b.toNat = 47 then (if d = 1 then gap .out r else gap (.block (d - 1) st) r)
    else gap (.block d st) (b :: r)

/-- A hexadecimal digit's value; 16: it is none. -/
def hexV (c : UInt8) : Nat :=
  if 48 ≤ c.toNat ∧ c.toNat ≤ 57 then c.toNat - 48
  else if 97 ≤ c.toNat ∧ c.toNat ≤ 102 then c.toNat - 97 + 10
  else if 65 ≤ c.toNat ∧ c.toNat ≤ 70 then c.toNat - 65 + 10
  else 16
/-- What an escape means (the list begins with its backslash), and how long it is. -/
def esc : List UInt8 → Option (UInt8 × Nat)
  | _ :: b :: r =>
    if b.toNat = 34 ∨ b.toNat = 92 then some (b, 2)
    else if b.toNat = 110 then some (10, 2)
    else if b.toNat = 116 then some (9, 2)
    else if b.toNat = 114 then some (13, 2)
    else if b.toNat = 120 then
      match r with
      | h :: l :: _ => if hexV h < 16 ∧ hexV l < 16 then some (UInt8.ofNat (hexV h * 16 + hexV l), 4) else none
      | _ => none
    else none
  | _ => none
theorem esc_len {r : List UInt8} {c : UInt8} {n : Nat} (h : esc r = some (c, n)) : 2 ≤ n ∧ n ≤ r.length := by
  unfold esc at h
  split at h
  · rename_i b r
    repeat' split at h
    all_goals first
      | (simp only [Option.some.injEq, Prod.mk.injEq] at h; obtain ⟨_, rfl⟩ := h; simp)
      | cases h
  · cases h

inductive Tx where
  | quote
  | esc (at' : List UInt8)
  | long
  | ok (text rest : List UInt8)
/-- A text behind its quote: what was read so far, and what is to come. -/
def txt (acc : List UInt8) : List UInt8 → Tx
  | [] => .quote
  | a :: r =>
    if a.toNat < 32 then .quote
    else if a.toNat = 34 then .ok acc r
    else if a.toNat = 92 then
      match _h : esc (a :: r) with
      | none => .esc (a :: r)
      | some (c, n) => if acc.length = 255 then .long else txt (acc ++ [c]) ((a :: r).drop n)
    else if acc.length = 255 then .long else txt (acc ++ [a]) r
termination_by l => l.length
decreasing_by
  · have := esc_len _h
    rw [List.length_drop]; simp; omega
  · simp

/-- The value of digits, a minus ahead of them perhaps; none: outside int64. -/
def digV (acc : Nat) : List UInt8 → Nat
  | [] => acc
  | c :: r => digV (acc * 10 + (c.toNat - 48)) r
def intV : List UInt8 → Option Int
  | [] => none
  | c :: r =>
    if c.toNat = 45 then (if digV 0 r ≤ 9223372036854775808 then some (-(digV 0 r : Int)) else none)
    else if digV 0 (c :: r) < 9223372036854775808 then some (digV 0 (c :: r) : Int) else none

/-- The tokens of one and two bytes: their spelling, kind and operation. -/
def signs : List (List Nat × Nat × Nat) := [([58, 45], 9, 0), ([33, 61], 11, 2), ([60, 61], 11, 4), ([62, 61], 11, 6), ([60], 11, 3), ([62], 11, 5), ([61], 11, 1), ([40], 5, 0), ([41], 6, 0), ([44], 7, 0), ([46], 8, 0)]
def pre (p : List Nat) (r : List UInt8) : Bool := decide ((r.take p.length).map (·.toNat) = p)

/-- What comes next is of this kind. -/
def hdP (p : UInt8 → Bool) : List UInt8 → Bool
  | c :: _ => p c
  | [] => false

inductive Nx where
  | fin
  | fault (code : Nat) (at' : List UInt8)
  | tok (kind op : Nat) (text : List UInt8) (int : Int) (rest : List UInt8)
def nextInt (r f : List UInt8) : Nx :=
  if (f.takeWhile isW).all isD then
    match intV (r.take (r.length - (f.dropWhile isW).length)) with
    | some v => .tok 3 0 [] v (f.dropWhile isW)
    | none => .fault 13 r
  else .fault 13 r
def nextWord (r : List UInt8) : Nx :=
  if 64 < (r.takeWhile isW).length then .fault 14 r
  else if (r.takeWhile isW).map (·.toNat) = [110, 111, 116] then .tok 10 0 [] 0 (r.dropWhile isW)
  else if hdP isL r then .tok 1 0 (r.takeWhile isW) 0 (r.dropWhile isW)
  else .tok 2 0 (r.takeWhile isW) 0 (r.dropWhile isW)
def nextText (r r0 : List UInt8) : Nx :=
  match txt [] r0 with
  | .quote => .fault 11 r
  | .esc a => .fault 12 a
  | .long => .fault 15 r
  | .ok t rest => .tok 4 0 t 0 rest
def nextSign (r : List UInt8) : Nx :=
  match signs.find? (fun s => pre s.1 r) with
  | some (p, kind, op) => .tok kind op [] 0 (r.drop p.length)
  | none => .fault 10 r
/-- The token that stands there. -/
def next : List UInt8 → Nx
  | [] => .fin
  | c :: r =>
    if isD c then nextInt (c :: r) (c :: r)
    else if c.toNat = 45 ∧ hdP isD r = true then nextInt (c :: r) r
    else if isW c then nextWord (c :: r)
    else if c.toNat = 34 then nextText (c :: r) r
    else nextSign (c :: r)

structure Tk where
  kind : Nat
  text : List UInt8
  int : Int
  op : Nat
  off : Nat
  fin : Nat
/-- All tokens of a text of n bytes from the rest r on, and the fault: its code and its place. -/
def scan : Nat → Nat → List UInt8 → List Tk × Nat × Nat
  | 0, _, _ => ([], 0, 0)
  | k + 1, n, r =>
    match gap .out r with
    | .inr st => ([], 16, n - st.length)
    | .inl r' =>
      match next r' with
      | .fin => ([⟨0, [], 0, 0, n, n⟩], 0, 0)
      | .fault code a => ([], code, n - a.length)
      | .tok kind op text int rest => (⟨kind, text, int, op, n - r'.length, n - rest.length⟩ :: (scan k n rest).1, (scan k n rest).2)

end Pl
end Go.Proofs.YthidnjnaifcfoaaDoor
