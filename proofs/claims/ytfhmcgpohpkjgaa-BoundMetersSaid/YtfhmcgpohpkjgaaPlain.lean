/-
  Plain arithmetic for the layer of bounds: sums, products and powers that stop at the greatest uint64; numbers as lists of digits to the base 65536. No program is in sight here; no condition beyond those that each lemma states.
-/
namespace Go.Proofs.Ytfhmcgpohpkjgaa.Plain

/-- The number, at most the greatest uint64. -/
def sat (n : Nat) : Nat := if n < 18446744073709551616 then n else 18446744073709551615

theorem sat_lt (n : Nat) : sat n < 18446744073709551616 := by unfold sat; split <;> omega
theorem sat_of_lt {n : Nat} (h : n < 18446744073709551616) : sat n = n := by unfold sat; rw [if_pos h]
theorem sat_of_ge {n : Nat} (h : 18446744073709551615 ≤ n) : sat n = 18446744073709551615 := by unfold sat; split <;> omega
theorem sat_sat (n : Nat) : sat (sat n) = sat n := sat_of_lt (sat_lt n)
theorem sat_mono {a b : Nat} (h : a ≤ b) : sat a ≤ sat b := by unfold sat; split <;> split <;> omega
theorem sat_zero : sat 0 = 0 := by decide
theorem sat_one : sat 1 = 1 := by decide

theorem sat_add_left (a b : Nat) : sat (sat a + b) = sat (a + b) := by
  unfold sat; repeat' split
  all_goals omega
theorem sat_add_right (a b : Nat) : sat (a + sat b) = sat (a + b) := by
  rw [Nat.add_comm, sat_add_left, Nat.add_comm]
theorem sat_add (a b : Nat) : sat (sat a + sat b) = sat (a + b) := by rw [sat_add_left, sat_add_right]

theorem sat_mul_left (a b : Nat) : sat (sat a * b) = sat (a * b) := by
  by_cases h : a < 18446744073709551616
  · rw [sat_of_lt h]
  · rw [sat_of_ge (n := a) (by omega)]
    by_cases hb : b = 0
    · subst hb; simp
    · have h1 : 18446744073709551615 * 1 ≤ 18446744073709551615 * b := Nat.mul_le_mul_left _ (by omega)
      have h2 : a * 1 ≤ a * b := Nat.mul_le_mul_left _ (by omega)
      rw [sat_of_ge (by omega), sat_of_ge (by omega)]
theorem sat_mul_right (a b : Nat) : sat (a * sat b) = sat (a * b) := by
  rw [Nat.mul_comm, sat_mul_left, Nat.mul_comm]
theorem sat_mul (a b : Nat) : sat (sat a * sat b) = sat (a * b) := by rw [sat_mul_left, sat_mul_right]

theorem sat_pow (a n : Nat) : sat (sat a ^ n) = sat (a ^ n) := by
  induction n with
  | zero => rfl
  | succ n ih => rw [Nat.pow_succ, Nat.pow_succ, sat_mul_right, ← sat_mul_left, ih, sat_mul_left]

/-- One round of the power by squares: the invariant 'result times base to what is left'. -/
theorem pow_round (p a n : Nat) :
    (if n % 2 = 1 then p * a else p) * (a * a) ^ (n / 2) = p * a ^ n := by
  have e : (a * a) ^ (n / 2) = a ^ (2 * (n / 2)) := by rw [Nat.pow_mul, Nat.pow_two]
  rw [e]
  split
  · rename_i h1
    have : n = 2 * (n / 2) + 1 := by omega
    conv => rhs; rw [this, Nat.pow_succ]
    rw [Nat.mul_assoc, Nat.mul_comm a]
  · rename_i h1
    have : n = 2 * (n / 2) := by omega
    conv => rhs; rw [this]

theorem two_pow_le {a k : Nat} (h : 2 ≤ a) : 2 ^ k ≤ a ^ k := Nat.pow_le_pow_left h k

/-- From the 64th power on a power of 2 or more is above the greatest uint64. -/
theorem pow_big {a n : Nat} (h : 2 ≤ a) (hn : 64 ≤ n) : sat (a ^ n) = 18446744073709551615 := by
  have h1 : 2 ^ 64 ≤ a ^ 64 := two_pow_le h
  have h2 : a ^ 64 ≤ a ^ n := Nat.pow_le_pow_right (by omega) hn
  exact sat_of_ge (Nat.le_trans (by decide) (Nat.le_trans h1 h2))

theorem pow_cap {a n : Nat} (h : 2 ≤ a) : sat (a ^ (min n 64)) = sat (a ^ n) := by
  by_cases hn : n ≤ 64
  · rw [Nat.min_eq_left hn]
  · rw [Nat.min_eq_right (by omega), pow_big h (Nat.le_refl _), pow_big h (by omega)]

/-! ### Digits -/

def val : List Nat → Nat
  | [] => 0
  | d :: l => d + 65536 * val l
def Dig (l : List Nat) : Prop := ∀ i : Nat, (l[i]?.getD 0) < 65536

theorem Dig.nil : Dig [] := fun i => by simp
theorem Dig.tail {d : Nat} {l : List Nat} (h : Dig (d :: l)) : Dig l := fun i => by have := h (i + 1); simpa using this
theorem Dig.head {d : Nat} {l : List Nat} (h : Dig (d :: l)) : d < 65536 := by have := h 0; simpa using this
theorem Dig.cons {d : Nat} {l : List Nat} (hd : d < 65536) (h : Dig l) : Dig (d :: l) := fun i => by
  cases i with
  | zero => simpa using hd
  | succ i => simpa using h i
theorem Dig.append {a b : List Nat} (ha : Dig a) (hb : Dig b) : Dig (a ++ b) := by
  induction a with
  | nil => simpa using hb
  | cons d l ih => exact Dig.cons ha.head (ih ha.tail)
theorem Dig.snoc {a : List Nat} {d : Nat} (ha : Dig a) (hd : d < 65536) : Dig (a ++ [d]) := ha.append (Dig.cons hd Dig.nil)
theorem Dig.drop {a : List Nat} (ha : Dig a) (k : Nat) : Dig (a.drop k) := fun i => by
  rw [List.getElem?_drop]; exact ha _
theorem Dig.take {a : List Nat} (ha : Dig a) (k : Nat) : Dig (a.take k) := fun i => by
  rw [List.getElem?_take]; split
  · exact ha _
  · simp

theorem val_append (a b : List Nat) : val (a ++ b) = val a + 65536 ^ a.length * val b := by
  induction a with
  | nil => simp [val]
  | cons d l ih =>
    simp only [List.cons_append, val, List.length_cons, ih, Nat.pow_succ, Nat.mul_add]
    rw [Nat.mul_comm (65536 ^ l.length) 65536, Nat.mul_assoc]; omega
theorem val_snoc (a : List Nat) (d : Nat) : val (a ++ [d]) = val a + 65536 ^ a.length * d := by
  rw [val_append]; simp [val]
theorem val_lt {a : List Nat} (h : Dig a) : val a < 65536 ^ a.length := by
  induction a with
  | nil => simp [val]
  | cons d l ih =>
    have := ih h.tail
    have hd := h.head
    simp only [val, List.length_cons, Nat.pow_succ]
    omega
theorem val_zeros (k : Nat) : val (List.replicate k 0) = 0 := by
  induction k with
  | zero => rfl
  | succ k ih => simp [List.replicate_succ, val, ih]
theorem dig_zeros (k : Nat) : Dig (List.replicate k 0) := fun i => by
  rw [List.getElem?_replicate]; split <;> simp

theorem val_drop (a : List Nat) (i : Nat) : val (a.drop i) = (a[i]?.getD 0) + 65536 * val (a.drop (i + 1)) := by
  induction a generalizing i with
  | nil => simp [val]
  | cons d l ih =>
    cases i with
    | zero => simp [val]
    | succ i => simpa using ih i
theorem val_drop_ge {a : List Nat} {i : Nat} (h : a.length ≤ i) : val (a.drop i) = 0 := by
  rw [List.drop_eq_nil_of_le h]; rfl
theorem val_take_drop (a : List Nat) (i : Nat) (h : i ≤ a.length) : val a = val (a.take i) + 65536 ^ i * val (a.drop i) := by
  have e := val_append (a.take i) (a.drop i)
  rw [List.take_append_drop, List.length_take, Nat.min_eq_left h] at e
  exact e

/-- One round of 'of': the digit and what is left. -/
theorem of_round (l : List Nat) (a n : Nat) (h : val l + 65536 ^ l.length * a = n) :
    val (l ++ [a % 65536]) + 65536 ^ (l ++ [a % 65536]).length * (a / 65536) = n := by
  rw [val_snoc, List.length_append, List.length_singleton, Nat.pow_succ, Nat.add_assoc, Nat.mul_assoc, ← Nat.mul_add]
  have : a % 65536 + 65536 * (a / 65536) = a := Nat.mod_add_div a 65536
  rw [this]; exact h

/-- One round of 'plus', where the sum of the two digits and the carry is d. -/
theorem plus_round (out a b : List Nat) (c i d n : Nat) (hi : out.length = i) (hd : d = c + (a[i]?.getD 0) + (b[i]?.getD 0))
    (h : val out + 65536 ^ i * (c + val (a.drop i) + val (b.drop i)) = n) :
    val (out ++ [d % 65536]) + 65536 ^ (i + 1) * (d / 65536 + val (a.drop (i + 1)) + val (b.drop (i + 1))) = n := by
  rw [val_snoc, hi, Nat.pow_succ, Nat.add_assoc, Nat.mul_assoc, ← Nat.mul_add]
  rw [val_drop a i, val_drop b i] at h
  have e : d % 65536 + 65536 * (d / 65536 + val (a.drop (i + 1)) + val (b.drop (i + 1))) = c + (a[i]?.getD 0 + 65536 * val (a.drop (i + 1))) + (b[i]?.getD 0 + 65536 * val (b.drop (i + 1))) := by
    have : d % 65536 + 65536 * (d / 65536) = d := Nat.mod_add_div d 65536
    omega
  rw [e]; exact h

/-- One round of the inner loop of 'times': digits of c + a * x behind z others. -/
theorem row_round (row a : List Nat) (c j x d n z : Nat) (hj : row.length = z + j) (hd : d = c + (a[j]?.getD 0) * x)
    (h : val row + 65536 ^ (z + j) * (c + val (a.drop j) * x) = n) :
    val (row ++ [d % 65536]) + 65536 ^ (z + (j + 1)) * (d / 65536 + val (a.drop (j + 1)) * x) = n := by
  rw [val_snoc, hj, ← Nat.add_assoc, Nat.pow_succ, Nat.add_assoc, Nat.mul_assoc, ← Nat.mul_add]
  rw [val_drop a j, Nat.add_mul, Nat.mul_assoc] at h
  have e : d % 65536 + 65536 * (d / 65536 + val (a.drop (j + 1)) * x) = c + (a[j]?.getD 0 * x + 65536 * (val (a.drop (j + 1)) * x)) := by
    have : d % 65536 + 65536 * (d / 65536) = d := Nat.mod_add_div d 65536
    omega
  rw [e]; exact h

/-- One round of the outer loop of 'times'. -/
theorem times_round (a b : List Nat) (i o : Nat) (x : Nat) (hx : x = b[i]?.getD 0) (h : o = val a * val (b.take i)) (hi : i < b.length) :
    o + 65536 ^ i * (val a * x) = val a * val (b.take (i + 1)) := by
  have e : b.take (i + 1) = b.take i ++ [b[i]?.getD 0] := by
    rw [List.take_add_one, List.getElem?_eq_getElem hi]; rfl
  rw [e, val_snoc, List.length_take, Nat.min_eq_left (by omega), Nat.mul_add, h, ← hx]
  rw [Nat.mul_left_comm]

/-- 'cut': some digit from the fourth on is not 0. -/
theorem cut_big {b : List Nat} {i : Nat} (h4 : 4 ≤ i) (hi : 0 < b[i]?.getD 0) : sat (val b) = 18446744073709551615 := by
  have hlt : i < b.length := by
    by_cases h : i < b.length
    · exact h
    · rw [List.getElem?_eq_none (by omega)] at hi; simp at hi
  have e := val_take_drop b i (by omega)
  have e2 := val_drop b i
  have h1 : 65536 ^ 4 ≤ 65536 ^ i := Nat.pow_le_pow_right (by decide) h4
  have h2 : 65536 ^ i * 1 ≤ 65536 ^ i * val (b.drop i) := Nat.mul_le_mul_left _ (by omega)
  have h3 : (65536 : Nat) ^ 4 = 18446744073709551616 := by decide
  exact sat_of_ge (by omega)

theorem drop_zero_val {b : List Nat} (k : Nat) (h : ∀ j, k ≤ j → j < b.length → b[j]?.getD 0 = 0) : val (b.drop k) = 0 := by
  by_cases hk : b.length ≤ k
  · exact val_drop_ge hk
  · have : ∀ n k, b.length - k = n → (∀ j, k ≤ j → j < b.length → b[j]?.getD 0 = 0) → val (b.drop k) = 0 := by
      intro n
      induction n with
      | zero => intro k e _; exact val_drop_ge (by omega)
      | succ n ih =>
        intro k e h
        rw [val_drop, h k (Nat.le_refl _) (by omega), ih (k + 1) (by omega) (fun j h1 h2 => h j (by omega) h2)]
    exact this _ k rfl h

/-- 'cut': all digits from the fourth on are 0. -/
theorem cut_small {b : List Nat} (hb : Dig b) (h : ∀ j, 4 ≤ j → j < b.length → b[j]?.getD 0 = 0) : val (b.take 4) = sat (val b) ∧ val (b.take 4) < 18446744073709551616 := by
  have h3 : (65536 : Nat) ^ 4 = 18446744073709551616 := by decide
  have hl := val_lt (hb.take 4)
  have hp : 65536 ^ (b.take 4).length ≤ 65536 ^ 4 := Nat.pow_le_pow_right (by decide) (by simp; omega)
  have hlt : val (b.take 4) < 18446744073709551616 := by omega
  refine ⟨?_, hlt⟩
  by_cases hk : b.length ≤ 4
  · rw [List.take_of_length_le hk] at hlt ⊢; rw [sat_of_lt hlt]
  · have e := val_take_drop b 4 (by omega)
    rw [drop_zero_val 4 h] at e
    have e' : val b = val (b.take 4) := by omega
    rw [e', sat_of_lt hlt]

/-! ### The invariants of the loops, each with its start, its round and its end -/

def OfInv (n : Nat) (l : List Nat) (a : Nat) : Prop := Dig l ∧ val l + 65536 ^ l.length * a = n ∧ l.length ≤ 4 ∧ a < 65536 ^ (4 - l.length)
theorem OfInv.start {n : Nat} (h : n < 18446744073709551616) : OfInv n [] n := ⟨Dig.nil, by simp [val], by simp, by simpa using h⟩
theorem OfInv.len {n : Nat} {l : List Nat} {a : Nat} (h : OfInv n l a) (ha : 0 < a) : l.length < 4 := by
  obtain ⟨_, _, h3, h4⟩ := h
  by_cases e : l.length = 4
  · rw [e] at h4; simp at h4; omega
  · omega
theorem OfInv.round {n : Nat} {l : List Nat} {a : Nat} (h : OfInv n l a) (ha : 0 < a) : OfInv n (l ++ [a % 65536]) (a / 65536) := by
  have hl := h.len ha
  obtain ⟨h1, h2, h3, h4⟩ := h
  refine ⟨h1.snoc (by omega), of_round l a n h2, by simp; omega, ?_⟩
  have e : 4 - l.length = (4 - (l ++ [a % 65536]).length) + 1 := by simp; omega
  rw [e, Nat.pow_succ] at h4
  omega
theorem OfInv.stop {n : Nat} {l : List Nat} (h : OfInv n l 0) : Dig l ∧ val l = n ∧ l.length ≤ 4 := ⟨h.1, by simpa using h.2.1, h.2.2.1⟩

def PlusInv (a b : List Nat) (i : Nat) (out : List Nat) (c : Nat) : Prop :=
  out.length = i ∧ Dig out ∧ c ≤ 1 ∧ (i ≤ max a.length b.length ∨ (i = max a.length b.length + 1 ∧ c = 0)) ∧
  val out + 65536 ^ i * (c + val (a.drop i) + val (b.drop i)) = val a + val b
theorem PlusInv.start (a b : List Nat) : PlusInv a b 0 [] 0 := ⟨rfl, Dig.nil, by omega, .inl (Nat.zero_le _), by simp [val]⟩
theorem getD_ge {l : List Nat} {i : Nat} (h : ¬ i < l.length) : l[i]?.getD 0 = 0 := by rw [List.getElem?_eq_none (by omega)]; rfl
theorem PlusInv.round {a b : List Nat} {i : Nat} {out : List Nat} {c : Nat} (h : PlusInv a b i out c) (ha : Dig a) (hb : Dig b) (hc : i < a.length ∨ i < b.length ∨ 0 < c) :
    PlusInv a b (i + 1) (out ++ [(c + a[i]?.getD 0 + b[i]?.getD 0) % 65536]) ((c + a[i]?.getD 0 + b[i]?.getD 0) / 65536) := by
  obtain ⟨h1, h2, h3, h4, h5⟩ := h
  have da := ha i
  have db := hb i
  refine ⟨by simp [h1], h2.snoc (by omega), by omega, ?_, plus_round out a b c i _ _ h1 rfl h5⟩
  by_cases e : i < max a.length b.length
  · left; omega
  · have e' : i = max a.length b.length := by omega
    right
    have g1 : a[i]?.getD 0 = 0 := getD_ge (by omega)
    have g2 : b[i]?.getD 0 = 0 := getD_ge (by omega)
    rw [g1, g2]; omega
theorem PlusInv.round' {a b : List Nat} {i p q : Nat} {out : List Nat} {c : Nat} (hp : p = a[i]?.getD 0) (hq : q = b[i]?.getD 0) (h : PlusInv a b i out c) (ha : Dig a) (hb : Dig b) (hc : i < a.length ∨ i < b.length ∨ 0 < c) :
    PlusInv a b (i + 1) (out ++ [(c + p + q) % 65536]) ((c + p + q) / 65536) := by subst hp; subst hq; exact h.round ha hb hc
theorem PlusInv.le {a b : List Nat} {i : Nat} {out : List Nat} {c : Nat} (h : PlusInv a b i out c) : i ≤ max a.length b.length + 1 := by
  obtain ⟨h1, h2, h3, h4, h5⟩ := h; omega
theorem PlusInv.stop {a b : List Nat} {i : Nat} {out : List Nat} (h : PlusInv a b i out 0) (ha : ¬ i < a.length) (hb : ¬ i < b.length) :
    Dig out ∧ val out = val a + val b ∧ out.length ≤ max a.length b.length + 1 := by
  have hl := h.le
  obtain ⟨h1, h2, h3, h4, h5⟩ := h
  refine ⟨h2, ?_, by omega⟩
  rw [val_drop_ge (by omega), val_drop_ge (by omega)] at h5
  simpa using h5

/-- The inner loop of 'times', behind z noughts: digits of a * x. -/
def RowInv (a : List Nat) (x z j : Nat) (row : List Nat) (c : Nat) : Prop :=
  row.length = z + j ∧ Dig row ∧ c < 65536 ∧ (j ≤ a.length ∨ (j = a.length + 1 ∧ c = 0)) ∧ val row + 65536 ^ (z + j) * (c + val (a.drop j) * x) = 65536 ^ z * (val a * x)
theorem RowInv.start (a : List Nat) (x z : Nat) : RowInv a x z 0 (List.replicate z 0) 0 :=
  ⟨by simp, dig_zeros z, by omega, .inl (Nat.zero_le _), by simp [val_zeros]⟩
theorem RowInv.le {a : List Nat} {x z j : Nat} {row : List Nat} {c : Nat} (h : RowInv a x z j row c) : j ≤ a.length + 1 := by
  obtain ⟨h1, h2, h3, h4, h5⟩ := h; omega
theorem prod_le {d x : Nat} (hd : d < 65536) (hx : x < 65536) : d * x ≤ 4294836225 := Nat.mul_le_mul (by omega : d ≤ 65535) (by omega : x ≤ 65535)
theorem RowInv.round {a : List Nat} {x z j : Nat} {row : List Nat} {c : Nat} (h : RowInv a x z j row c) (ha : Dig a) (hx : x < 65536) (hc : j < a.length ∨ 0 < c) :
    RowInv a x z (j + 1) (row ++ [(c + a[j]?.getD 0 * x) % 65536]) ((c + a[j]?.getD 0 * x) / 65536) := by
  obtain ⟨h1, h2, h3, h4, h5⟩ := h
  have hp := prod_le (ha j) hx
  refine ⟨by simp [h1]; omega, h2.snoc (by omega), by omega, ?_, row_round row a c j x _ _ z h1 rfl h5⟩
  by_cases e : j < a.length
  · left; omega
  · right
    have g1 : a[j]?.getD 0 = 0 := getD_ge e
    rw [g1, Nat.zero_mul]; omega
theorem RowInv.round' {a : List Nat} {x z j p : Nat} {row : List Nat} {c : Nat} (h : RowInv a x z j row c) (hp : p = a[j]?.getD 0) (ha : Dig a) (hx : x < 65536) (hc : j < a.length ∨ 0 < c) :
    RowInv a x z (j + 1) (row ++ [(c + p * x) % 65536]) ((c + p * x) / 65536) := by subst hp; exact h.round ha hx hc
theorem RowInv.stop {a : List Nat} {x z j : Nat} {row : List Nat} (h : RowInv a x z j row 0) (hj : ¬ j < a.length) :
    Dig row ∧ val row = 65536 ^ z * (val a * x) ∧ row.length ≤ z + a.length + 1 := by
  have hl := h.le
  obtain ⟨h1, h2, h3, h4, h5⟩ := h
  refine ⟨h2, ?_, by omega⟩
  rw [val_drop_ge (by omega)] at h5
  simpa using h5

/-- The outer loop of 'times'. -/
def TimesInv (a b : List Nat) (i : Nat) (out : List Nat) : Prop := Dig out ∧ val out = val a * val (b.take i) ∧ out.length ≤ a.length + i + 1
theorem TimesInv.start (a b : List Nat) : TimesInv a b 0 [] := ⟨Dig.nil, by simp [val], by simp⟩
theorem TimesInv.round {a b : List Nat} {i : Nat} {out row out' : List Nat} (h : TimesInv a b i out) (hi : i < b.length)
    (hr : val row = 65536 ^ i * (val a * (b[i]?.getD 0))) (hrl : row.length ≤ i + a.length + 1)
    (ho : Dig out' ∧ val out' = val out + val row ∧ out'.length ≤ max out.length row.length + 1) : TimesInv a b (i + 1) out' := by
  obtain ⟨h1, h2, h3⟩ := h
  refine ⟨ho.1, ?_, by omega⟩
  rw [ho.2.1, hr]
  exact times_round a b i _ _ rfl h2 hi
theorem TimesInv.stop {a b out : List Nat} {i : Nat} (h : TimesInv a b i out) (hi : i = b.length) : Dig out ∧ val out = val a * val b ∧ out.length ≤ a.length + b.length + 1 := by
  obtain ⟨h1, h2, h3⟩ := h
  subst hi
  rw [List.take_length] at h2
  exact ⟨h1, h2, h3⟩

/-- The second loop of 'cut', from the highest digit down: m digits are still to come. -/
def CutInv (b : List Nat) (m a : Nat) : Prop := a = val ((b.take 4).drop m) ∧ m ≤ b.length
theorem CutInv.start (b : List Nat) : CutInv b b.length 0 := ⟨by rw [val_drop_ge (by simp; omega)], Nat.le_refl _⟩
theorem CutInv.skip {b : List Nat} {m a : Nat} (h : CutInv b (m + 1) a) (hm : 4 ≤ m) : CutInv b m a := by
  obtain ⟨h1, h2⟩ := h
  refine ⟨?_, by omega⟩
  rw [h1, val_drop_ge (by simp; omega), val_drop_ge (by simp; omega)]
theorem CutInv.step {b : List Nat} {m a : Nat} (h : CutInv b (m + 1) a) (hm : m < 4) : CutInv b m (a * 65536 + b[m]?.getD 0) := by
  obtain ⟨h1, h2⟩ := h
  refine ⟨?_, by omega⟩
  rw [val_drop, ← h1, List.getElem?_take, if_pos hm]; omega
theorem CutInv.lt {b : List Nat} {m a : Nat} (h : CutInv b m a) (hb : Dig b) : a < 18446744073709551616 := by
  rw [h.1]
  have h3 : (65536 : Nat) ^ 4 = 18446744073709551616 := by decide
  have hl := val_lt ((hb.take 4).drop m)
  have hp : 65536 ^ ((b.take 4).drop m).length ≤ 65536 ^ 4 := Nat.pow_le_pow_right (by decide) (by simp; omega)
  omega
theorem CutInv.stop {b : List Nat} {a : Nat} (h : CutInv b 0 a) (hb : Dig b) (hz : ∀ j, 4 ≤ j → j < b.length → b[j]?.getD 0 = 0) : a = sat (val b) := by
  rw [h.1, List.drop_zero]; exact (cut_small hb hz).1

end Go.Proofs.Ytfhmcgpohpkjgaa.Plain
