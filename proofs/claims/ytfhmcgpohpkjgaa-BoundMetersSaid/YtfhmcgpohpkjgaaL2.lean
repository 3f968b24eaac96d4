/-
  The walks of the laws BoundAddIs, BoundMulIs, BoundPowIs: each returns true and leaves what was in memory. Conditions: arguments are uint64 values.
-/
import Derived.Test.YtfhmcgpohpkjgaaW5
import Derived.Test.YtfhmcgpohpkjgaaL1
namespace Go.Proofs.Ytfhmcgpohpkjgaa
open Go.RowKit Plain

theorem sum_to (l : List Nat) (V : Nat) (v : Value) (w : World) (hv : ReadsO w w.heap.size v l) (hl : U64s l) (hn : l.length ≤ 35184372088832) (h : sat l.sum = V) :
    Calls Try.prog 20 #[v] w fun e w' => e = .returned (.int .u64 (V : Int)) ∧ w = w' := by
  subst h; exact sum_any l v w hv hl hn

theorem reads3 (a b c : Nat) (w : World) : ReadsO (w.alloc (.cells #[.int .u64 (a : Int), .int .u64 (b : Int), .int .u64 (c : Int)] 22)) (w.alloc (.cells #[.int .u64 (a : Int), .int .u64 (b : Int), .int .u64 (c : Int)] 22)).heap.size
    (.slice (some ⟨w.heap.size, 0, none⟩) 3 3) [a, b, c] := by
  refine ⟨_, 3, rfl, .inr ⟨w.heap.size, 0, rfl, by simp, fun j hj => ?_⟩⟩
  match j, hj with
  | 0, _ => simp [World.cell?_alloc_at]
  | 1, _ => simp [World.cell?_alloc_at]
  | 2, _ => simp [World.cell?_alloc_at]

set_option maxRecDepth 100000 in
set_option maxHeartbeats 1600000 in
theorem addis_walk (a : Nat) (ha : a < 18446744073709551616) (b : Nat) (hb : b < 18446744073709551616) (c : Nat) (hc : c < 18446744073709551616) (w : World) :
    Calls Try.prog 6 #[.int .u64 (a : Int), .int .u64 (b : Int), .int .u64 (c : Int)] w fun e w' => e = .returned (.bool true) ∧ Below w.heap.size w w' := by
  obtain ⟨V, hV⟩ : ∃ V, sat (a + b) = V := ⟨_, rfl⟩
  obtain ⟨T, hT⟩ : ∃ T, sat (a + b + c) = T := ⟨_, rfl⟩
  obtain ⟨B1, hB1⟩ : ∃ T, sat (b + c) = T := ⟨_, rfl⟩
  obtain ⟨C1, hC1⟩ : ∃ T, sat (c + a) = T := ⟨_, rfl⟩
  have h1 : sat (V + c) = T := by rw [← hV, sat_add_left, hT]
  have h2 : sat (a + B1) = T := by rw [← hB1, sat_add_right, ← Nat.add_assoc, hT]
  have h3 : sat (C1 + b) = T := by rw [← hC1, sat_add_left, ← hT]; congr 1; omega
  have h4 : sat ([a, b, c].sum) = T := by rw [← hT]; congr 1; simp; omega
  have h5 : sat (b + a) = V := by rw [Nat.add_comm, hV]
  have hx : U64s [a, b, c] := by
    intro j
    match j with
    | 0 => simpa using ha
    | 1 => simpa using hb
    | 2 => simpa using hc
    | j + 3 => simp
  have HX := Lib.hid hx
  have hV' := hV
  replace hV := Lib.hid hV; replace h1 := Lib.hid h1; replace h2 := Lib.hid h2; replace h3 := Lib.hid h3; replace h4 := Lib.hid h4; replace h5 := Lib.hid h5
  replace hB1 := Lib.hid hB1; replace hC1 := Lib.hid hC1
  clear hT hx
  by_cases h : a + b < 18446744073709551616
  · rw [sat_of_lt h] at hV'
    have f1 : ((V : Int) != (a : Int) + (b : Int)) = false := by rw [← hV']; simp
    clear hV'
    go_enter Try.func6, Try.ntmps6
    go_wp2_with fail
    refine (add_to a b V hV.out w).mono ?_
    rintro e w' ⟨rfl, rfl⟩
    go_wp2_with fail
    refine (add_to b a V h5.out w).mono ?_
    rintro e w' ⟨rfl, rfl⟩
    go_wp2_with fail
    refine (add_to a b V hV.out w).mono ?_
    rintro e w' ⟨rfl, rfl⟩
    go_wp2_with fail
    refine (add_to V c T h1.out w).mono ?_
    rintro e w' ⟨rfl, rfl⟩
    go_wp2_with fail
    refine (add_to b c B1 hB1.out w).mono ?_
    rintro e w' ⟨rfl, rfl⟩
    go_wp2_with fail
    refine (add_to a B1 T h2.out w).mono ?_
    rintro e w' ⟨rfl, rfl⟩
    go_wp2_with fail
    refine (sum_to [a, b, c] T _ _ (reads3 a b c w) HX.out (by simp) h4.out).mono ?_
    rintro e w' ⟨rfl, rfl⟩
    go_wp2_with fail
    refine (add_to c a C1 hC1.out _).mono ?_
    rintro e w' ⟨rfl, rfl⟩
    go_wp2_with fail
    refine (add_to C1 b T h3.out _).mono ?_
    rintro e w' ⟨rfl, rfl⟩
    go_wp2
    go_ret
    exact ⟨rfl, (Below.refl _ _).alloc (Nat.le_refl _) _⟩
  · rw [sat_of_ge (by omega)] at hV'
    obtain ⟨m, hm⟩ : ∃ m : Nat, m + 18446744073709551616 = a + b := ⟨a + b - 18446744073709551616, by omega⟩
    have hma : m < a := by omega
    have hw : IntKind.u64.wrap ((a : Int) + (b : Int)) = (m : Int) := by rw [IntKind.wrap_u64]; omega
    have f1 : ((V : Int) != 18446744073709551615) = false := by rw [← hV']; simp
    clear hV' hm h
    go_enter Try.func6, Try.ntmps6
    go_wp2_with fail
    refine (add_to a b V hV.out w).mono ?_
    rintro e w' ⟨rfl, rfl⟩
    go_wp2_with fail
    refine (add_to b a V h5.out w).mono ?_
    rintro e w' ⟨rfl, rfl⟩
    go_wp2_with fail
    refine (add_to a b V hV.out w).mono ?_
    rintro e w' ⟨rfl, rfl⟩
    go_wp2_with fail
    refine (add_to V c T h1.out w).mono ?_
    rintro e w' ⟨rfl, rfl⟩
    go_wp2_with fail
    refine (add_to b c B1 hB1.out w).mono ?_
    rintro e w' ⟨rfl, rfl⟩
    go_wp2_with fail
    refine (add_to a B1 T h2.out w).mono ?_
    rintro e w' ⟨rfl, rfl⟩
    go_wp2_with fail
    refine (sum_to [a, b, c] T _ _ (reads3 a b c w) HX.out (by simp) h4.out).mono ?_
    rintro e w' ⟨rfl, rfl⟩
    go_wp2_with fail
    refine (add_to c a C1 hC1.out _).mono ?_
    rintro e w' ⟨rfl, rfl⟩
    go_wp2_with fail
    refine (add_to C1 b T h3.out _).mono ?_
    rintro e w' ⟨rfl, rfl⟩
    go_wp2
    go_ret
    exact ⟨rfl, (Below.refl _ _).alloc (Nat.le_refl _) _⟩

end Go.Proofs.Ytfhmcgpohpkjgaa
