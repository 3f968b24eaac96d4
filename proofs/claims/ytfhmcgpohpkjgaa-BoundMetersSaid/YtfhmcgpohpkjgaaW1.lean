/-
  The walks of the numbers' layer that loop over plain numbers alone: bound.Add, bound.Mul, bound.Pow, edictref09.plain, edictlaw09.mod: each returns what the plain arithmetic says and leaves the world as it is. Conditions: the numbers are uint64 (int) values.
-/
import Derived.Test.YtfhmcgpohpkjgaaProg
import Derived.Test.YtfhmcgpohpkjgaaPlain
import Derived.WalkKit
import Derived.WalkLawsBesides
import Derived.WalkSpells
import Derived.Lib.Hide
import Derived.Shelf.Bits.Mul64
namespace Go.Proofs.Ytfhmcgpohpkjgaa
open Go.RowKit Plain

theorem ret_u64 {a : Int} {b : Nat} (h : a = (b : Int)) : Ending.returned (.int .u64 a) = .returned (.int .u64 (b : Int)) := by rw [h]

theorem add64_run (a b : Nat) (w : World) : (callFunc 41 #[.int .u64 (a : Int), .int .u64 (b : Int), .int .u64 0]).run Try.prog w =
    .ok (.value (.tuple #[.int .u64 (((a + b) % 18446744073709551616 : Nat) : Int), .int .u64 (((a + b) / 18446744073709551616 : Nat) : Int)])) w := by
  rw [run_callFunc_extern Try.func41 (by kernel_rfl) (by kernel_rfl) (by kernel_rfl) (e := add64Entry) (by kernel_rfl), run_add64 a b 0 (by omega) (by omega) (by omega) (by omega)]
  simp only [Result.andThen]
  congr 5 <;> omega

theorem add_any (a b : Nat) (w : World) :
    Calls Try.prog 16 #[.int .u64 (a : Int), .int .u64 (b : Int)] w fun e w' => e = .returned (.int .u64 (sat (a + b) : Nat)) ∧ w = w' := by
  by_cases h : a + b < 18446744073709551616
  · have hr : ∀ w, (callFunc 41 #[.int .u64 (a : Int), .int .u64 (b : Int), .int .u64 0]).run Try.prog w = .ok (.value (.tuple #[.int .u64 ((a + b : Nat) : Int), .int .u64 0])) w := by
      intro w; rw [add64_run, Nat.mod_eq_of_lt h, Nat.div_eq_of_lt h]; rfl
    go_enter Try.func16, Try.ntmps16
    go_wp2
    go_ret
    exact ⟨ret_u64 (by rw [sat_of_lt h]; rfl), rfl⟩
  · obtain ⟨c, hc⟩ : ∃ c : Nat, (a + b) / 18446744073709551616 = c + 1 := ⟨(a + b) / 18446744073709551616 - 1, by omega⟩
    have hr : ∀ w, (callFunc 41 #[.int .u64 (a : Int), .int .u64 (b : Int), .int .u64 0]).run Try.prog w = .ok (.value (.tuple #[.int .u64 (((a + b) % 18446744073709551616 : Nat) : Int), .int .u64 ((c + 1 : Nat) : Int)])) w := by
      intro w; rw [add64_run, hc]
    have hs : sat (a + b) = 18446744073709551615 := sat_of_ge (by omega)
    have H := Lib.hid hs
    clear hs hc h
    go_enter Try.func16, Try.ntmps16
    go_wp2
    go_ret
    exact ⟨ret_u64 (by rw [H.out]; rfl), rfl⟩

theorem mul64_any (a b : Nat) (ha : a < 18446744073709551616) (hb : b < 18446744073709551616) (w : World) :
    Calls Try.prog 45 #[.int .u64 (a : Int), .int .u64 (b : Int)] w fun e w' => e = .returned (.tuple #[.int .u64 ((a * b / 18446744073709551616 : Nat) : Int), .int .u64 ((a * b % 18446744073709551616 : Nat) : Int)]) ∧ w = w' := by
  obtain ⟨bd, bt, bw, hhi⟩ := Lib.mul64_hi a b ha hb
  have ba := Lib.half_mul_le (a := a / 4294967296) (b := b / 4294967296) (by omega) (by omega)
  have bb := Lib.half_mul_le (a := a / 4294967296) (b := b % 4294967296) (by omega) (by omega)
  have bc := Lib.half_mul_le (a := a % 4294967296) (b := b / 4294967296) (by omega) (by omega)
  have ba' : a / 4294967296 * (b / 4294967296) < 18446744073709551616 := by omega
  have bb' : a / 4294967296 * (b % 4294967296) < 18446744073709551616 := by omega
  have bc' : a % 4294967296 * (b / 4294967296) < 18446744073709551616 := by omega
  have bh1 : a / 4294967296 * (b / 4294967296) + (a / 4294967296 * (b % 4294967296) + a % 4294967296 * (b % 4294967296) / 4294967296) / 4294967296 < 18446744073709551616 := by omega
  have bh : a / 4294967296 * (b / 4294967296) + (a / 4294967296 * (b % 4294967296) + a % 4294967296 * (b % 4294967296) / 4294967296) / 4294967296 + ((a / 4294967296 * (b % 4294967296) + a % 4294967296 * (b % 4294967296) / 4294967296) % 4294967296 + a % 4294967296 * (b / 4294967296)) / 4294967296 < 18446744073709551616 := by omega
  go_enter Try.func45, Try.ntmps45
  go_wp2
  simp only [Mul64.maskN a ha, Mul64.maskN b hb, Mul64.divN, Mul64.mulN, Mul64.addN, Mul64.wrapN _ bd, Mul64.wrapN _ bb', Mul64.wrapN _ bt, Mul64.maskN _ bt, Mul64.wrapN _ bc', Mul64.wrapN _ bw, Mul64.wrapN _ ba', Mul64.wrapN _ bh1, Mul64.wrapN _ bh, Mul64.wrapM (a * b)]
  rw [hhi]
  go_ret2
  exact ⟨rfl, rfl⟩

theorem mul_any (a b : Nat) (ha : a < 18446744073709551616) (hb : b < 18446744073709551616) (w : World) :
    Calls Try.prog 18 #[.int .u64 (a : Int), .int .u64 (b : Int)] w fun e w' => e = .returned (.int .u64 (sat (a * b) : Nat)) ∧ w = w' := by
  by_cases h : a * b < 18446744073709551616
  · have h0 : a * b / 18446744073709551616 = 0 := Nat.div_eq_of_lt h
    have h1 : a * b % 18446744073709551616 = a * b := Nat.mod_eq_of_lt h
    have hc := mul64_any a b ha hb
    rw [h0, h1] at hc
    have HC := Lib.hid hc
    have HS := Lib.hid (sat_of_lt h)
    clear hc h0 h1 h ha hb
    go_enter Try.func18, Try.ntmps18
    go_wp2_with (go_at_call 45; refine (HC.out _).mono ?_; rintro e w' ⟨rfl, rfl⟩)
    go_ret
    exact ⟨ret_u64 (by rw [HS.out]; rfl), rfl⟩
  · obtain ⟨c, hcc⟩ : ∃ c : Nat, a * b / 18446744073709551616 = c + 1 := ⟨a * b / 18446744073709551616 - 1, by omega⟩
    have hc := mul64_any a b ha hb
    rw [hcc] at hc
    have HC := Lib.hid hc
    have HS := Lib.hid (sat_of_ge (n := a * b) (by omega))
    clear hc hcc h ha hb
    go_enter Try.func18, Try.ntmps18
    go_wp2_with (go_at_call 45; refine (HC.out _).mono ?_; rintro e w' ⟨rfl, rfl⟩)
    go_ret
    exact ⟨ret_u64 (by rw [HS.out]; rfl), rfl⟩

/-- 'Pow': the round's invariant: what is gathered times base to what is left. -/
theorem pow_any (a n : Nat) (ha : a < 18446744073709551616) (hn : n < 18446744073709551616) (w : World) :
    Calls Try.prog 23 #[.int .u64 (a : Int), .int .u64 (n : Int)] w fun e w' => e = .returned (.int .u64 (sat (a ^ n) : Nat)) ∧ w = w' := by
  obtain ⟨V, hV⟩ : ∃ V, V = sat (a ^ n) := ⟨_, rfl⟩
  rw [← hV]
  have HV := Lib.hid hV
  clear hV
  go_enter Try.func23, Try.ntmps23
  go_wp2
  go_loop [0, 1, 5] (fun x y z => ∃ b m p : Nat, x = .int .u64 b ∧ y = .int .u64 m ∧ z = .int .u64 p ∧ b < 18446744073709551616 ∧ m < 18446744073709551616 ∧ p < 18446744073709551616 ∧ Hid (sat (p * b ^ m) = V))
    (fun _ y _ => (intOf y).toNat)
  case atStart => exact ⟨a, n, 1, rfl, rfl, rfl, ha, hn, by omega, by unfold Hid; rw [Nat.one_mul]; exact HV.out.symm⟩
  case round =>
    obtain ⟨b, m, p, rfl, rfl, rfl, hb, hm, hp, hI⟩ := hrel
    have hsp := sat_lt (p * b)
    have hsb := sat_lt (b * b)
    by_cases hpos : 0 < m
    · by_cases hodd : m % 2 = 1
      · by_cases hmore : 0 < m / 2
        · have hq : Hid (sat (sat (p * b) * sat (b * b) ^ (m / 2)) = V) := by
            unfold Hid; rw [← hI.out, ← pow_round p b m, if_pos hodd, ← sat_mul_right (sat (p * b)), sat_pow, sat_mul]
          clear hI
          go_wp2_with fail
          refine (mul_any p b hp hb _).mono ?_
          rintro e w' ⟨rfl, rfl⟩
          go_wp2_with fail
          refine (mul_any b b hb hb _).mono ?_
          rintro e w' ⟨rfl, rfl⟩
          go_wp2
          go_round
          case rel => exact ⟨sat (b * b), m / 2, sat (p * b), rfl, by go_num, rfl, hsb, by omega, hsp, hq⟩
          case measure => simp [intOf]; omega
        · have e1 : m = 1 := by omega
          have hq : Hid (sat (sat (p * b) * b ^ 0) = V) := by
            unfold Hid; rw [← hI.out, e1, Nat.pow_one, Nat.pow_zero, Nat.mul_one, sat_sat]
          clear hI hmore
          subst e1
          go_wp2_with fail
          refine (mul_any p b hp hb _).mono ?_
          rintro e w' ⟨rfl, rfl⟩
          go_wp2
          go_round
          case rel => exact ⟨b, 0, sat (p * b), rfl, by go_num, rfl, hb, by omega, hsp, hq⟩
          case measure => simp [intOf]
      · have hmore : 0 < m / 2 := by omega
        have hq : Hid (sat (p * sat (b * b) ^ (m / 2)) = V) := by
          unfold Hid; rw [← hI.out, ← pow_round p b m, if_neg hodd, ← sat_mul_right p, sat_pow, sat_mul_right]
        clear hI
        go_wp2_with fail
        refine (mul_any b b hb hb _).mono ?_
        rintro e w' ⟨rfl, rfl⟩
        go_wp2
        go_round
        case rel => exact ⟨sat (b * b), m / 2, p, rfl, by go_num, rfl, hsb, by omega, hp, hq⟩
        case measure => simp [intOf]; omega
    · obtain rfl : m = 0 := by omega
      have hq : sat p = V := by rw [← hI.out, Nat.pow_zero, Nat.mul_one]
      have hp' : V = p := by rw [← hq]; exact sat_of_lt hp
      have HQ := Lib.hid hp'
      clear hq hI hp' 
      go_wp2
      go_ret
      exact ⟨ret_u64 (by rw [HQ.out]), rfl⟩
end Go.Proofs.Ytfhmcgpohpkjgaa
