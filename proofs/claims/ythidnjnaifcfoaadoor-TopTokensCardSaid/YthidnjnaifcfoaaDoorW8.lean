/-
  The walks of lex's reader.peek and reader.run. Conditions: the text is at most 65536 bytes long; the reader lies in a block of its own.
-/
import Derived.Test.YthidnjnaifcfoaaDoorW7
namespace Go.Proofs.YthidnjnaifcfoaaDoor
open Go.RowKit Go.Shelf Pl

/-- The reader's cells. -/
def Rd (w : World) (X : Nat) (s : ByteArray) (a : Nat) : Prop := w.cell? ⟨X, 0, none⟩ = some (.string s) ∧ w.cell? ⟨X, 1, none⟩ = some (.int .i64 (a : Int))
/-- The byte that stands k bytes on. -/
def pk (s : ByteArray) (i : Nat) : UInt8 := hd0 ((L s).drop i)
theorem pk_in {s : ByteArray} {i : Nat} (h : i < s.size) : pk s i = s[i] := by unfold pk; rw [L_drop h]; rfl
theorem pk_out {s : ByteArray} {i : Nat} (h : s.size ≤ i) : pk s i = 0 := by
  unfold pk
  rw [show (L s).drop i = [] from List.drop_eq_nil_of_le (by rw [L_len]; omega)]; rfl
theorem ret_u8 {a b : Int} (h : a = b) : Ending.returned (.int .u8 a) = .returned (.int .u8 b) := by rw [h]

set_option maxRecDepth 100000 in
set_option maxHeartbeats 3200000 in
theorem peek_any (s : ByteArray) (a k X : Nat) (w : World) (hs : s.size ≤ 65536) (ha : a ≤ s.size) (hk : k ≤ 3) (hR : Rd w X s a) :
    Calls Tryd.prog 23 #[.pointer (some ⟨X, 0, none⟩), .int .i64 (k : Int)] w fun e w' => e = .returned (.int .u8 ((pk s (a + k)).toNat : Int)) ∧ ∃ n, w' = w.drewN n := by
  obtain ⟨h0, h1⟩ := hR
  have hw : IntKind.i64.wrap ((a : Int) + (k : Int)) = (a : Int) + (k : Int) := by rw [IntKind.wrap_i64]; omega
  have j0 : (0 : Int) ≤ (a : Int) + (k : Int) := by omega
  by_cases hlt : a + k < s.size
  · have d : decide ((a : Int) + (k : Int) < (s.size : Int)) = true := decide_eq_true (by omega)
    have j1 : (a : Int) + (k : Int) < (s.size : Int) := by omega
    have hT : ((a : Int) + (k : Int)).toNat = a + k := by omega
    have HF : Hid ((s[a + k].toNat : Int) = ((pk s (a + k)).toNat : Int)) := Lib.hid (by rw [pk_in hlt])
    go_enter Tryd.func23, Tryd.ntmps23
    go_wp2_with fail
    go_quiet (fail)
    go_wp2_with fail
    go_quiet (fail)
    go_wp2
    go_ret
    exact ⟨ret_u8 HF.out, _, World.drewN_drewN _ _ _⟩
  · have d : decide ((a : Int) + (k : Int) < (s.size : Int)) = false := decide_eq_false (by omega)
    have HF : Hid ((0 : Int) = ((pk s (a + k)).toNat : Int)) := Lib.hid (by rw [pk_out (by omega)]; rfl)
    go_enter Tryd.func23, Tryd.ntmps23
    go_wp2_with fail
    go_quiet (fail)
    go_wp2
    go_ret
    exact ⟨ret_u8 HF.out, _, rfl⟩

set_option maxRecDepth 100000 in
set_option maxHeartbeats 3200000 in
theorem run_any (s : ByteArray) (a o X : Nat) (w : World) (hs : s.size ≤ 65536) (ho : o ≤ s.size) (hR : Rd w X s a) :
    Calls Tryd.prog 32 #[.pointer (some ⟨X, 0, none⟩), .int .i64 (o : Int)] w fun e w' => e = .returned (.int .i64 ((s.size - (((L s).drop o).dropWhile isW).length : Nat) : Int)) ∧ w = w' := by
  obtain ⟨h0, h1⟩ := hR
  obtain ⟨E, hE⟩ : ∃ E, E = s.size - (((L s).drop o).dropWhile isW).length := ⟨_, rfl⟩
  rw [← hE]
  have HE := Lib.hid hE
  clear hE
  go_enter Tryd.func32, Tryd.ntmps32
  go_wp2
  go_loop [1] (fun j => ∃ q : Nat, j = .int .i64 (q : Int) ∧ o ≤ q ∧ q ≤ s.size ∧ Hid (((L s).drop q).dropWhile isW = ((L s).drop o).dropWhile isW)) (fun j => s.size - (intOf j).toNat)
  case atStart => exact ⟨o, rfl, Nat.le_refl _, ho, Lib.hid rfl⟩
  case round =>
    obtain ⟨q, rfl, hoq, hq, HQ⟩ := hrel
    by_cases g1 : q < s.size
    · have j0 : (0 : Int) ≤ (q : Int) := by omega
      have j1 : (q : Int) < (s.size : Int) := by omega
      have j2 : decide ((q : Int) < (s.size : Int)) = true := decide_eq_true (by omega)
      have hwq : IntKind.i64.wrap ((q : Int) + 1) = (q : Int) + 1 := by rw [IntKind.wrap_i64]; omega
      obtain ⟨d, hd⟩ : ∃ d, d = s[q] := ⟨_, rfl⟩
      have HD := Lib.hid (L_drop g1)
      rw [← hd] at HD
      have HS := Lib.hid hd
      clear hd
      go_wp2_with fail
      rw [← HS.out]
      refine (isW_any d _).mono ?_
      rintro e w' ⟨rfl, rfl⟩
      cases hw : isW d with
      | true =>
        have HN : Hid (((L s).drop (q + 1)).dropWhile isW = ((L s).drop o).dropWhile isW) := Lib.hid (by
          have h5 := HQ.out
          rw [HD.out, List.dropWhile_cons_of_pos hw] at h5
          exact h5)
        clear HQ HD HS
        go_wp2
        go_round
        case rel => exact ⟨q + 1, by go_num, by omega, by omega, HN⟩
        case measure => simp only [intOf]; omega
      | false =>
        have hEq : q = E := by
          have h5 := HQ.out
          rw [HD.out, List.dropWhile_cons_of_neg (by simp [hw]), ← HD.out] at h5
          rw [HE.out, ← h5, List.length_drop, L_len]; omega
        have HEQ := Lib.hid hEq
        clear HQ HD HS hEq
        go_wp2
        go_ret
        exact ⟨ret_i64 (by rw [HEQ.out]), rfl⟩
    · have hEq : (s.size : Int) = (E : Int) := by
        have h5 := HQ.out
        rw [show (L s).drop q = [] from List.drop_eq_nil_of_le (by rw [L_len]; omega)] at h5
        rw [HE.out, ← h5]; simp
      have hqs : q = s.size := by omega
      have HEQ : Hid ((q : Int) = (E : Int)) := Lib.hid (by rw [hqs]; exact hEq)
      have HEQ2 := Lib.hid hEq
      have j2 : decide ((q : Int) < (s.size : Int)) = false := decide_eq_false (by omega)
      clear HQ hEq hqs
      go_wp2
      go_ret
      exact ⟨ret_i64 (by first | exact HEQ.out | exact HEQ2.out), rfl⟩
end Go.Proofs.YthidnjnaifcfoaaDoor
