/-
  The walks of the laws BoundMulIs, BoundPowIs: each returns true and leaves what was in memory. Conditions: arguments are uint64 values.
-/
import Derived.Test.YtfhmcgpohpkjgaaL2
namespace Go.Proofs.Ytfhmcgpohpkjgaa
open Go.RowKit Plain

theorem pow_to' (a b V : Nat) (B : Int) (hB : B = (b : Int)) (ha : a < 18446744073709551616) (hb : b < 18446744073709551616) (h : sat (a ^ b) = V) (w : World) :
    Calls Try.prog 23 #[.int .u64 (a : Int), .int .u64 B] w fun e w' => e = .returned (.int .u64 (V : Int)) ∧ w = w' := by
  subst hB; exact pow_to a b V ha hb h w

set_option maxRecDepth 100000 in
set_option maxHeartbeats 1600000 in
theorem mulis_walk (a : Nat) (ha : a < 18446744073709551616) (b : Nat) (hb : b < 18446744073709551616) (c : Nat) (hc : c < 18446744073709551616) (w : World) :
    Calls Try.prog 9 #[.int .u64 (a : Int), .int .u64 (b : Int), .int .u64 (c : Int)] w fun e w' => e = .returned (.bool true) ∧ Below w.heap.size w w' := by
  obtain ⟨V, hV⟩ : ∃ V, sat (a * b) = V := ⟨_, rfl⟩
  obtain ⟨T, hT⟩ : ∃ T, sat (a * (b + c)) = T := ⟨_, rfl⟩
  obtain ⟨B1, hB1⟩ : ∃ T, sat (b + c) = T := ⟨_, rfl⟩
  obtain ⟨D, hD⟩ : ∃ T, sat (a * c) = T := ⟨_, rfl⟩
  have bB : B1 < 18446744073709551616 := by rw [← hB1]; exact sat_lt _
  have h1 : sat (a * B1) = T := by rw [← hB1, sat_mul_right, hT]
  have h2 : sat (V + D) = T := by rw [← hV, ← hD, sat_add, ← Nat.mul_add, hT]
  have h5 : sat (b * a) = V := by rw [Nat.mul_comm, hV]
  have hV' := hV
  replace hV := Lib.hid hV; replace h1 := Lib.hid h1; replace h2 := Lib.hid h2; replace h5 := Lib.hid h5
  replace hB1 := Lib.hid hB1; replace hD := Lib.hid hD
  clear hT
  by_cases hb0 : b = 0
  · have hw : IntKind.u64.wrap ((a : Int) * (b : Int)) = (V : Int) := by
      rw [← hV', hb0, Nat.mul_zero]; simp [sat, IntKind.wrap_u64]
    have hbz : b ≤ 0 := by omega
    clear hV' hb0
    go_enter Try.func9, Try.ntmps9
    go_wp2_with fail
    refine (mul_to a b V ha hb hV.out w).mono ?_
    rintro e w' ⟨rfl, rfl⟩
    go_wp2_with fail
    refine (mul_to b a V hb ha h5.out w).mono ?_
    rintro e w' ⟨rfl, rfl⟩
    go_wp2_with fail
    refine (add_to b c B1 hB1.out w).mono ?_
    rintro e w' ⟨rfl, rfl⟩
    go_wp2_with fail
    refine (mul_to a B1 T ha bB h1.out w).mono ?_
    rintro e w' ⟨rfl, rfl⟩
    go_wp2_with fail
    refine (mul_to a b V ha hb hV.out w).mono ?_
    rintro e w' ⟨rfl, rfl⟩
    go_wp2_with fail
    refine (mul_to a c D ha hc hD.out w).mono ?_
    rintro e w' ⟨rfl, rfl⟩
    go_wp2_with fail
    refine (add_to V D T h2.out w).mono ?_
    rintro e w' ⟨rfl, rfl⟩
    go_wp2
    go_ret
    exact ⟨rfl, Below.refl _ _⟩
  · obtain ⟨q, hq⟩ : ∃ q, q = 18446744073709551615 / b := ⟨_, rfl⟩
    have hqi : (18446744073709551615 : Int) / (b : Int) = (q : Int) := by rw [hq]; rfl
    by_cases h : a * b < 18446744073709551616
    · have hqa : a ≤ q := by rw [hq]; exact (Nat.le_div_iff_mul_le (by omega)).2 (by omega)
      have hw : IntKind.u64.wrap ((a : Int) * (b : Int)) = (V : Int) := by
        rw [← hV', sat_of_lt h, ← Int.natCast_mul]; exact IntWalk.u64_in _ (by omega)
      have hbp : 1 ≤ b := by omega
      clear hV' hq h hb0
      go_enter Try.func9, Try.ntmps9
      go_wp2_with fail
      refine (mul_to a b V ha hb hV.out w).mono ?_
      rintro e w' ⟨rfl, rfl⟩
      go_wp2_with fail
      refine (mul_to b a V hb ha h5.out w).mono ?_
      rintro e w' ⟨rfl, rfl⟩
      go_wp2_with fail
      refine (add_to b c B1 hB1.out w).mono ?_
      rintro e w' ⟨rfl, rfl⟩
      go_wp2_with fail
      refine (mul_to a B1 T ha bB h1.out w).mono ?_
      rintro e w' ⟨rfl, rfl⟩
      go_wp2_with fail
      refine (mul_to a b V ha hb hV.out w).mono ?_
      rintro e w' ⟨rfl, rfl⟩
      go_wp2_with fail
      refine (mul_to a c D ha hc hD.out w).mono ?_
      rintro e w' ⟨rfl, rfl⟩
      go_wp2_with fail
      refine (add_to V D T h2.out w).mono ?_
      rintro e w' ⟨rfl, rfl⟩
      go_wp2
      go_ret
      exact ⟨rfl, Below.refl _ _⟩
    · have hqa : q < a := by rw [hq]; exact (Nat.div_lt_iff_lt_mul (by omega)).2 (by omega)
      have f1 : ((V : Int) != 18446744073709551615) = false := by rw [← hV', sat_of_ge (by omega)]; simp
      have hbp : 1 ≤ b := by omega
      clear hV' hq h hb0
      go_enter Try.func9, Try.ntmps9
      go_wp2_with fail
      refine (mul_to a b V ha hb hV.out w).mono ?_
      rintro e w' ⟨rfl, rfl⟩
      go_wp2_with fail
      refine (mul_to b a V hb ha h5.out w).mono ?_
      rintro e w' ⟨rfl, rfl⟩
      go_wp2_with fail
      refine (add_to b c B1 hB1.out w).mono ?_
      rintro e w' ⟨rfl, rfl⟩
      go_wp2_with fail
      refine (mul_to a B1 T ha bB h1.out w).mono ?_
      rintro e w' ⟨rfl, rfl⟩
      go_wp2_with fail
      refine (mul_to a b V ha hb hV.out w).mono ?_
      rintro e w' ⟨rfl, rfl⟩
      go_wp2_with fail
      refine (mul_to a c D ha hc hD.out w).mono ?_
      rintro e w' ⟨rfl, rfl⟩
      go_wp2_with fail
      refine (add_to V D T h2.out w).mono ?_
      rintro e w' ⟨rfl, rfl⟩
      go_wp2
      go_ret
      exact ⟨rfl, Below.refl _ _⟩

set_option maxRecDepth 100000 in
set_option maxHeartbeats 4000000 in
theorem powis_walk (a : Nat) (ha : a < 18446744073709551616) (m : Nat) (hm : m < 18446744073709551616) (n : Nat) (hn : n < 18446744073709551616) (w : World) :
    Calls Try.prog 8 #[.int .u64 (a : Int), .int .u64 (m : Int), .int .u64 (n : Int)] w fun e w' => e = .returned (.bool true) ∧ Below w.heap.size w w' := by
  obtain ⟨X, hX⟩ : ∃ V, sat (a ^ m) = V := ⟨_, rfl⟩
  obtain ⟨Y, hY⟩ : ∃ V, sat (a ^ n) = V := ⟨_, rfl⟩
  obtain ⟨Z1, hZ1⟩ : ∃ V, sat (a ^ (m + 1)) = V := ⟨_, rfl⟩
  obtain ⟨Z2, hZ2⟩ : ∃ V, sat (a ^ (m + n)) = V := ⟨_, rfl⟩
  obtain ⟨Z3, hZ3⟩ : ∃ V, sat (a ^ (m * n)) = V := ⟨_, rfl⟩
  have bX : X < 18446744073709551616 := by rw [← hX]; exact sat_lt _
  have bY : Y < 18446744073709551616 := by rw [← hY]; exact sat_lt _
  have p0 : sat (a ^ 0) = 1 := rfl
  have p1 : sat (a ^ 1) = a := by rw [Nat.pow_one, sat_of_lt ha]
  have q1 : sat (a * X) = Z1 := by rw [← hX, sat_mul_right, Nat.mul_comm, ← Nat.pow_succ, hZ1]
  have q2 : sat (X * Y) = Z2 := by rw [← hX, ← hY, sat_mul, ← Nat.pow_add, hZ2]
  have q3 : sat (X ^ n) = Z3 := by rw [← hX, sat_pow, ← Nat.pow_mul, hZ3]
  replace hX := Lib.hid hX; replace hY := Lib.hid hY; replace hZ1 := Lib.hid hZ1; replace hZ2 := Lib.hid hZ2; replace hZ3 := Lib.hid hZ3
  replace p0 := Lib.hid p0; replace p1 := Lib.hid p1; replace q1 := Lib.hid q1; replace q2 := Lib.hid q2; replace q3 := Lib.hid q3
  by_cases c1 : m < 18446744073709551615
  · replace c1 : (m : Int) < 18446744073709551615 := by omega
    by_cases c2 : m + n < 18446744073709551616
    · obtain ⟨r, hr⟩ : ∃ r, r = 18446744073709551615 - n := ⟨_, rfl⟩
      have hri : IntKind.u64.wrap (18446744073709551615 - (n : Int)) = (r : Int) := by rw [IntKind.wrap_u64]; omega
      have hri2 : (18446744073709551615 : Int) - (n : Int) = (r : Int) := by omega
      have c2' : m ≤ r := by omega
      have C2 := Lib.hid c2
      have hmn : IntKind.u64.wrap ((m : Int) + (n : Int)) = (m : Int) + (n : Int) := IntWalk.u64_in _ (by omega)
      clear c2 hr
      by_cases hn0 : n = 0
      · have hnz : n ≤ 0 := by omega
        clear hn0
        go_enter Try.func8, Try.ntmps8
        go_wp2_with fail
        refine (pow_to' a 0 1 0 (by omega) ha (by omega) p0.out w).mono ?_
        rintro e w' ⟨rfl, rfl⟩
        go_wp2_with fail
        refine (pow_to' a 1 a 1 (by omega) ha (by omega) p1.out w).mono ?_
        rintro e w' ⟨rfl, rfl⟩
        go_wp2_with fail
        refine (pow_to' a (m + 1) Z1 _ (by omega) ha (by omega) hZ1.out w).mono ?_
        rintro e w' ⟨rfl, rfl⟩
        clear c1
        go_wp2_with fail
        refine (pow_to a m X ha hm hX.out w).mono ?_
        rintro e w' ⟨rfl, rfl⟩
        go_wp2_with fail
        refine (mul_to a X Z1 ha bX q1.out w).mono ?_
        rintro e w' ⟨rfl, rfl⟩
        go_wp2_with fail
        refine (pow_to' a (m + n) Z2 _ (by omega) ha C2.out hZ2.out w).mono ?_
        rintro e w' ⟨rfl, rfl⟩
        go_wp2_with fail
        refine (pow_to a m X ha hm hX.out w).mono ?_
        rintro e w' ⟨rfl, rfl⟩
        go_wp2_with fail
        refine (pow_to a n Y ha hn hY.out w).mono ?_
        rintro e w' ⟨rfl, rfl⟩
        go_wp2_with fail
        refine (mul_to X Y Z2 bX bY q2.out w).mono ?_
        rintro e w' ⟨rfl, rfl⟩
        go_wp2
        go_ret
        exact ⟨rfl, Below.refl _ _⟩
      · obtain ⟨q, hq⟩ : ∃ q, q = 18446744073709551615 / n := ⟨_, rfl⟩
        have hqi : (18446744073709551615 : Int) / (n : Int) = (q : Int) := by rw [hq]; rfl
        have hnp : 1 ≤ n := by omega
        by_cases c3 : m * n < 18446744073709551616
        · have hqm : m ≤ q := by rw [hq]; exact (Nat.le_div_iff_mul_le (by omega)).2 (by omega)
          obtain ⟨k, hkk⟩ : ∃ k, k = m * n := ⟨_, rfl⟩
          have bk : k < 18446744073709551616 := by omega
          have hw : IntKind.u64.wrap ((m : Int) * (n : Int)) = (k : Int) := by
            rw [hkk, ← Int.natCast_mul]; exact IntWalk.u64_in _ (by omega)
          have hk := Lib.hid (show sat (a ^ k) = Z3 by rw [hkk, hZ3.out])
          clear hkk hq c3 hn0
          go_enter Try.func8, Try.ntmps8
          go_wp2_with fail
          refine (pow_to' a 0 1 0 (by omega) ha (by omega) p0.out w).mono ?_
          rintro e w' ⟨rfl, rfl⟩
          go_wp2_with fail
          refine (pow_to' a 1 a 1 (by omega) ha (by omega) p1.out w).mono ?_
          rintro e w' ⟨rfl, rfl⟩
          go_wp2_with fail
          refine (pow_to' a (m + 1) Z1 _ (by omega) ha (by omega) hZ1.out w).mono ?_
          rintro e w' ⟨rfl, rfl⟩
          clear c1
          go_wp2_with fail
          refine (pow_to a m X ha hm hX.out w).mono ?_
          rintro e w' ⟨rfl, rfl⟩
          go_wp2_with fail
          refine (mul_to a X Z1 ha bX q1.out w).mono ?_
          rintro e w' ⟨rfl, rfl⟩
          go_wp2_with fail
          refine (pow_to' a (m + n) Z2 _ (by omega) ha C2.out hZ2.out w).mono ?_
          rintro e w' ⟨rfl, rfl⟩
          go_wp2_with fail
          refine (pow_to a m X ha hm hX.out w).mono ?_
          rintro e w' ⟨rfl, rfl⟩
          go_wp2_with fail
          refine (pow_to a n Y ha hn hY.out w).mono ?_
          rintro e w' ⟨rfl, rfl⟩
          go_wp2_with fail
          refine (mul_to X Y Z2 bX bY q2.out w).mono ?_
          rintro e w' ⟨rfl, rfl⟩
          go_wp2_with fail
          refine (pow_to a k Z3 ha bk hk.out w).mono ?_
          rintro e w' ⟨rfl, rfl⟩
          go_wp2_with fail
          refine (pow_to a m X ha hm hX.out w).mono ?_
          rintro e w' ⟨rfl, rfl⟩
          go_wp2_with fail
          refine (pow_to X n Z3 bX hn q3.out w).mono ?_
          rintro e w' ⟨rfl, rfl⟩
          go_wp2
          go_ret
          exact ⟨rfl, Below.refl _ _⟩
        · have hqm : q < m := by rw [hq]; exact (Nat.div_lt_iff_lt_mul (by omega)).2 (by omega)
          clear hq c3 hn0
          go_enter Try.func8, Try.ntmps8
          go_wp2_with fail
          refine (pow_to' a 0 1 0 (by omega) ha (by omega) p0.out w).mono ?_
          rintro e w' ⟨rfl, rfl⟩
          go_wp2_with fail
          refine (pow_to' a 1 a 1 (by omega) ha (by omega) p1.out w).mono ?_
          rintro e w' ⟨rfl, rfl⟩
          go_wp2_with fail
          refine (pow_to' a (m + 1) Z1 _ (by omega) ha (by omega) hZ1.out w).mono ?_
          rintro e w' ⟨rfl, rfl⟩
          clear c1
          go_wp2_with fail
          refine (pow_to a m X ha hm hX.out w).mono ?_
          rintro e w' ⟨rfl, rfl⟩
          go_wp2_with fail
          refine (mul_to a X Z1 ha bX q1.out w).mono ?_
          rintro e w' ⟨rfl, rfl⟩
          go_wp2_with fail
          refine (pow_to' a (m + n) Z2 _ (by omega) ha C2.out hZ2.out w).mono ?_
          rintro e w' ⟨rfl, rfl⟩
          go_wp2_with fail
          refine (pow_to a m X ha hm hX.out w).mono ?_
          rintro e w' ⟨rfl, rfl⟩
          go_wp2_with fail
          refine (pow_to a n Y ha hn hY.out w).mono ?_
          rintro e w' ⟨rfl, rfl⟩
          go_wp2_with fail
          refine (mul_to X Y Z2 bX bY q2.out w).mono ?_
          rintro e w' ⟨rfl, rfl⟩
          go_wp2
          go_ret
          exact ⟨rfl, Below.refl _ _⟩
    · obtain ⟨r, hr⟩ : ∃ r, r = 18446744073709551615 - n := ⟨_, rfl⟩
      have hri : IntKind.u64.wrap (18446744073709551615 - (n : Int)) = (r : Int) := by rw [IntKind.wrap_u64]; omega
      have hri2 : (18446744073709551615 : Int) - (n : Int) = (r : Int) := by omega
      have c2' : r < m := by omega
      have C2 := Lib.hid c2
      clear c2 hr
      by_cases hn0 : n = 0
      · exfalso; have := C2.out; omega
      · obtain ⟨q, hq⟩ : ∃ q, q = 18446744073709551615 / n := ⟨_, rfl⟩
        have hqi : (18446744073709551615 : Int) / (n : Int) = (q : Int) := by rw [hq]; rfl
        have hnp : 1 ≤ n := by omega
        by_cases c3 : m * n < 18446744073709551616
        · have hqm : m ≤ q := by rw [hq]; exact (Nat.le_div_iff_mul_le (by omega)).2 (by omega)
          obtain ⟨k, hkk⟩ : ∃ k, k = m * n := ⟨_, rfl⟩
          have bk : k < 18446744073709551616 := by omega
          have hw : IntKind.u64.wrap ((m : Int) * (n : Int)) = (k : Int) := by
            rw [hkk, ← Int.natCast_mul]; exact IntWalk.u64_in _ (by omega)
          have hk := Lib.hid (show sat (a ^ k) = Z3 by rw [hkk, hZ3.out])
          clear hkk hq c3 hn0
          go_enter Try.func8, Try.ntmps8
          go_wp2_with fail
          refine (pow_to' a 0 1 0 (by omega) ha (by omega) p0.out w).mono ?_
          rintro e w' ⟨rfl, rfl⟩
          go_wp2_with fail
          refine (pow_to' a 1 a 1 (by omega) ha (by omega) p1.out w).mono ?_
          rintro e w' ⟨rfl, rfl⟩
          go_wp2_with fail
          refine (pow_to' a (m + 1) Z1 _ (by omega) ha (by omega) hZ1.out w).mono ?_
          rintro e w' ⟨rfl, rfl⟩
          clear c1
          go_wp2_with fail
          refine (pow_to a m X ha hm hX.out w).mono ?_
          rintro e w' ⟨rfl, rfl⟩
          go_wp2_with fail
          refine (mul_to a X Z1 ha bX q1.out w).mono ?_
          rintro e w' ⟨rfl, rfl⟩
          go_wp2_with fail
          refine (pow_to a k Z3 ha bk hk.out w).mono ?_
          rintro e w' ⟨rfl, rfl⟩
          go_wp2_with fail
          refine (pow_to a m X ha hm hX.out w).mono ?_
          rintro e w' ⟨rfl, rfl⟩
          go_wp2_with fail
          refine (pow_to X n Z3 bX hn q3.out w).mono ?_
          rintro e w' ⟨rfl, rfl⟩
          go_wp2
          go_ret
          exact ⟨rfl, Below.refl _ _⟩
        · have hqm : q < m := by rw [hq]; exact (Nat.div_lt_iff_lt_mul (by omega)).2 (by omega)
          clear hq c3 hn0
          go_enter Try.func8, Try.ntmps8
          go_wp2_with fail
          refine (pow_to' a 0 1 0 (by omega) ha (by omega) p0.out w).mono ?_
          rintro e w' ⟨rfl, rfl⟩
          go_wp2_with fail
          refine (pow_to' a 1 a 1 (by omega) ha (by omega) p1.out w).mono ?_
          rintro e w' ⟨rfl, rfl⟩
          go_wp2_with fail
          refine (pow_to' a (m + 1) Z1 _ (by omega) ha (by omega) hZ1.out w).mono ?_
          rintro e w' ⟨rfl, rfl⟩
          clear c1
          go_wp2_with fail
          refine (pow_to a m X ha hm hX.out w).mono ?_
          rintro e w' ⟨rfl, rfl⟩
          go_wp2_with fail
          refine (mul_to a X Z1 ha bX q1.out w).mono ?_
          rintro e w' ⟨rfl, rfl⟩
          go_wp2
          go_ret
          exact ⟨rfl, Below.refl _ _⟩
  · obtain ⟨k, hk⟩ : ∃ k, k = m := ⟨_, rfl⟩
    rw [← hk] at hX hZ1 hZ2 hZ3
    obtain rfl : m = 18446744073709551615 := by omega
    have HK := Lib.hid (show (18446744073709551615 : Int) = (k : Int) by rw [hk]; rfl)
    have HK2 := Lib.hid (show k < 18446744073709551616 by rw [hk]; omega)
    clear c1 hm hk
    by_cases hn0 : n = 0
    · subst hn0
      clear hn
      go_enter Try.func8, Try.ntmps8
      go_wp2_with fail
      refine (pow_to' a 0 1 0 (by omega) ha (by omega) p0.out w).mono ?_
      rintro e w' ⟨rfl, rfl⟩
      go_wp2_with fail
      refine (pow_to' a 1 a 1 (by omega) ha (by omega) p1.out w).mono ?_
      rintro e w' ⟨rfl, rfl⟩
      go_wp2_with fail
      refine (pow_to' a k Z2 18446744073709551615 HK.out ha HK2.out hZ2.out w).mono ?_
      rintro e w' ⟨rfl, rfl⟩
      go_wp2_with fail
      refine (pow_to' a k X 18446744073709551615 HK.out ha HK2.out hX.out w).mono ?_
      rintro e w' ⟨rfl, rfl⟩
      go_wp2_with fail
      refine (pow_to' a 0 Y 0 (by omega) ha (by omega) hY.out w).mono ?_
      rintro e w' ⟨rfl, rfl⟩
      go_wp2_with fail
      refine (mul_to X Y Z2 bX bY q2.out w).mono ?_
      rintro e w' ⟨rfl, rfl⟩
      go_wp2
      go_ret
      exact ⟨rfl, Below.refl _ _⟩
    · by_cases hn1 : n = 1
      · subst hn1
        clear hn hn0
        go_enter Try.func8, Try.ntmps8
        go_wp2_with fail
        refine (pow_to' a 0 1 0 (by omega) ha (by omega) p0.out w).mono ?_
        rintro e w' ⟨rfl, rfl⟩
        go_wp2_with fail
        refine (pow_to' a 1 a 1 (by omega) ha (by omega) p1.out w).mono ?_
        rintro e w' ⟨rfl, rfl⟩
        go_wp2_with fail
        refine (pow_to' a k Z3 18446744073709551615 HK.out ha HK2.out (by rw [← Nat.mul_one k]; exact hZ3.out) w).mono ?_
        rintro e w' ⟨rfl, rfl⟩
        go_wp2_with fail
        refine (pow_to' a k X 18446744073709551615 HK.out ha HK2.out hX.out w).mono ?_
        rintro e w' ⟨rfl, rfl⟩
        go_wp2_with fail
        refine (pow_to' X 1 Z3 1 (by omega) bX (by omega) q3.out w).mono ?_
        rintro e w' ⟨rfl, rfl⟩
        go_wp2
        go_ret
        exact ⟨rfl, Below.refl _ _⟩
      · obtain ⟨r, hr⟩ : ∃ r, r = 18446744073709551615 - n := ⟨_, rfl⟩
        have hri : IntKind.u64.wrap (18446744073709551615 - (n : Int)) = (r : Int) := by rw [IntKind.wrap_u64]; omega
        have hri2 : (18446744073709551615 : Int) - (n : Int) = (r : Int) := by omega
        have c2' : r < 18446744073709551615 := by omega
        obtain ⟨q, hq⟩ : ∃ q, q = 18446744073709551615 / n := ⟨_, rfl⟩
        have hqi : (18446744073709551615 : Int) / (n : Int) = (q : Int) := by rw [hq]; rfl
        have hqm : q < 18446744073709551615 := by rw [hq]; exact Nat.div_lt_self (by omega) (by omega)
        have hnp : 1 ≤ n := by omega
        clear hr hq hn0 hn1
        go_enter Try.func8, Try.ntmps8
        go_wp2_with fail
        refine (pow_to' a 0 1 0 (by omega) ha (by omega) p0.out w).mono ?_
        rintro e w' ⟨rfl, rfl⟩
        go_wp2_with fail
        refine (pow_to' a 1 a 1 (by omega) ha (by omega) p1.out w).mono ?_
        rintro e w' ⟨rfl, rfl⟩
        go_wp2
        go_ret
        exact ⟨rfl, Below.refl _ _⟩

end Go.Proofs.Ytfhmcgpohpkjgaa
