/-
  The walks of edictref09's Add, Mul, Pow and of the laws over numbers alone. Conditions: arguments are uint64 values.
-/
import Derived.Test.YtfhmcgpohpkjgaaW3
namespace Go.Proofs.Ytfhmcgpohpkjgaa
open Go.RowKit Plain

def U64Is (w : World) (n : Nat) (e : Ending) (w' : World) : Prop := e = .returned (.int .u64 (n : Int)) ∧ Below w.heap.size w w'

set_option maxHeartbeats 800000 in
theorem refAdd_any (a b : Nat) (ha : a < 18446744073709551616) (hb : b < 18446744073709551616) (w : World) :
    Calls Try.prog 17 #[.int .u64 (a : Int), .int .u64 (b : Int)] w (U64Is w (sat (a + b))) := by
  go_enter Try.func17, Try.ntmps17
  go_wp2_with fail
  refine (of_any a ha w).mono ?_
  rintro e w1 ⟨v1, l1, rfl, ho1, hb1, hd1, hv1, hl1⟩
  have hz1 := hb1.size
  go_wp2_with fail
  refine (of_any b hb w1).mono ?_
  rintro e w2 ⟨v2, l2, rfl, ho2, hb2, hd2, hv2, hl2⟩
  have hz2 := hb2.size
  have HV1 := Lib.hid hv1
  have HV2 := Lib.hid hv2
  clear hv1 hv2
  go_wp2_with fail
  refine (plus_any l1 l2 v1 v2 w2 (reads_of_owns (ownsRow_below ho1 hb2)) (reads_of_owns ho2) hd1 hd2 (by omega) (by omega)).mono ?_
  rintro e w3 ⟨v3, l3, rfl, ho3, hb3, hd3, hv3, hl3⟩
  have hz3 := hb3.size
  have HF := Lib.hid (show val l3 = a + b by rw [hv3, HV1.out, HV2.out])
  have hl3' : l3.length ≤ 20 := by omega
  have HB := Lib.hid (hb1.trans ((hb2.mono hz1).trans (hb3.mono (by omega))))
  have hr3 := reads_of_owns ho3
  clear hv3 hl3
  go_wp2_with fail
  refine (cut_any l3 v3 w3 hr3 hd3 (by omega)).mono ?_
  rintro e w4 ⟨rfl, rfl⟩
  go_wp2
  go_ret
  exact ⟨ret_u64 (by rw [HF.out]), HB.out⟩

set_option maxHeartbeats 800000 in
theorem refMul_any (a b : Nat) (ha : a < 18446744073709551616) (hb : b < 18446744073709551616) (w : World) :
    Calls Try.prog 19 #[.int .u64 (a : Int), .int .u64 (b : Int)] w (U64Is w (sat (a * b))) := by
  go_enter Try.func19, Try.ntmps19
  go_wp2_with fail
  refine (of_any a ha w).mono ?_
  rintro e w1 ⟨v1, l1, rfl, ho1, hb1, hd1, hv1, hl1⟩
  have hz1 := hb1.size
  go_wp2_with fail
  refine (of_any b hb w1).mono ?_
  rintro e w2 ⟨v2, l2, rfl, ho2, hb2, hd2, hv2, hl2⟩
  have hz2 := hb2.size
  have HV1 := Lib.hid hv1
  have HV2 := Lib.hid hv2
  clear hv1 hv2
  go_wp2_with fail
  refine (times_any l1 l2 v1 v2 w2 (reads_of_owns (ownsRow_below ho1 hb2)) (reads_of_owns ho2) hd1 hd2 (by omega) (by omega)).mono ?_
  rintro e w3 ⟨v3, l3, rfl, ho3, hb3, hd3, hv3, hl3⟩
  have hz3 := hb3.size
  have HF := Lib.hid (show val l3 = a * b by rw [hv3, HV1.out, HV2.out])
  have hl3' : l3.length ≤ 20 := by omega
  have HB := Lib.hid (hb1.trans ((hb2.mono hz1).trans (hb3.mono (by omega))))
  have hr3 := reads_of_owns ho3
  clear hv3 hl3
  go_wp2_with fail
  refine (cut_any l3 v3 w3 hr3 hd3 (by omega)).mono ?_
  rintro e w4 ⟨rfl, rfl⟩
  go_wp2
  go_ret
  exact ⟨ret_u64 (by rw [HF.out]), HB.out⟩


/-- The loop's relation in edictref09.Pow: after i factors. -/
def PowRel (w : World) (a n : Nat) (v k : Value) (wr : World) : Prop :=
  ∃ (l : List Nat) (i : Nat), k = .int .u64 (i : Int) ∧ i ≤ 64 ∧ i ≤ n ∧ wr.ownsRow w.heap.size 22 1 v l.length (dig l) ∧ Below w.heap.size w wr ∧ Dig l ∧ Hid (val l = a ^ i) ∧ l.length ≤ 4 + 5 * i

set_option maxRecDepth 100000 in
set_option maxHeartbeats 1600000 in
theorem refPow_any (a n : Nat) (ha : a < 18446744073709551616) (hn : n < 18446744073709551616) (w : World) :
    Calls Try.prog 24 #[.int .u64 (a : Int), .int .u64 (n : Int)] w (U64Is w (sat (a ^ n))) := by
  by_cases hn0 : n = 0
  · subst hn0
    have HS := Lib.hid (show sat (a ^ 0) = 1 from rfl)
    clear ha hn
    go_enter Try.func24, Try.ntmps24
    go_wp2
    go_ret
    exact ⟨ret_u64 (by rw [HS.out]; rfl), Below.refl _ _⟩
  · by_cases ha1 : a = 1
    · subst ha1
      have HS := Lib.hid (show sat (1 ^ n) = 1 by rw [Nat.one_pow]; rfl)
      have hb0 : ((n : Int) == 0) = false := by simp; omega
      clear ha hn
      go_enter Try.func24, Try.ntmps24
      go_wp2
      go_ret
      exact ⟨ret_u64 (by rw [HS.out]; rfl), Below.refl _ _⟩
    · by_cases ha0 : a = 0
      · subst ha0
        have HS := Lib.hid (show sat (0 ^ n) = 0 by rw [Nat.zero_pow (by omega)]; rfl)
        have hb0 : ((n : Int) == 0) = false := by simp; omega
        clear ha hn
        go_enter Try.func24, Try.ntmps24
        go_wp2
        go_ret
        exact ⟨ret_u64 (by rw [HS.out]; rfl), Below.refl _ _⟩
      · have hb0 : ((n : Int) == 0) = false := by simp; omega
        have hb1 : ((a : Int) == 1) = false := by simp; omega
        have hb2 : ((a : Int) == 0) = false := by simp; omega
        have HC := Lib.hid (pow_cap (a := a) (n := n) (by omega))
        have h1 : (1 : Nat) < 18446744073709551616 := by omega
        go_enter Try.func24, Try.ntmps24
        go_wp2_with fail
        refine (of_any 1 h1 w).mono ?_
        rintro e w1 ⟨v1, l1, rfl, ho1, hbl1, hd1, hv1, hl1⟩
        have HV1 := Lib.hid hv1
        clear hv1
        go_wp2_with fail
        go_loopw [5, 6] (fun v k wr => PowRel w a n v k wr) (fun _ k _ => 64 - (intOf k).toNat)
        case atStart => exact ⟨l1, 0, rfl, by omega, by omega, ho1, hbl1, hd1, by unfold Hid; rw [HV1.out]; rfl, by omega⟩
        case round =>
          obtain ⟨l, i, rfl, hi64, hin, hown, hnx, hdl, hvl, hll⟩ := hrel
          have hsz := hnx.size
          by_cases hlt : i < n ∧ i < 64
          · obtain ⟨h3, h4⟩ := hlt
            clear HV1 ho1 hbl1 hd1
            go_wp2_with fail
            refine (of_any a ha wr).mono ?_
            rintro e w2 ⟨v2, l2, rfl, ho2, hb2, hd2, hv2, hl2⟩
            have hz2 := hb2.size
            have HV2 := Lib.hid hv2
            clear hv2
            go_wp2_with fail
            refine (times_any l l2 _ v2 w2 (reads_of_owns (ownsRow_below hown hb2)) (reads_of_owns ho2) hdl hd2 (by omega) (by omega)).mono ?_
            rintro e w3 ⟨v3, l3, rfl, ho3, hb3, hd3, hv3, hl3⟩
            have hz3 := hb3.size
            have HF := Lib.hid (show val l3 = a ^ (i + 1) by rw [hv3, hvl.out, HV2.out, Nat.pow_succ])
            have hl3' : l3.length ≤ 4 + 5 * (i + 1) := by omega
            have HB := Lib.hid (hnx.trans ((hb2.mono hsz).trans (hb3.mono (by omega))))
            have HO := Lib.hid (Joins.ownsRow_le ho3 (show w.heap.size ≤ w2.heap.size by omega))
            clear hv3 hl3 ho3 hb3 hown hnx
            go_wp2
            go_roundw
            case rel => exact ⟨l3, i + 1, by go_num, by omega, by omega, HO.out, HB.out, hd3, HF.out, hl3'⟩
            case measure => simp only [intOf]; omega
          · have hr := reads_of_owns hown
            have e : i = min n 64 := by omega
            have HE := Lib.hid e
            have HB := Lib.hid hnx
            have hcond : n ≤ i ∨ 64 ≤ i := by omega
            clear e HV1 ho1 hbl1 hd1 hnx hlt
            by_cases h3 : i < n
            · have h4 : ¬ i < 64 := by omega
              go_wp2_with fail
              refine (cut_any l _ wr hr hdl (by omega)).mono ?_
              rintro e w4 ⟨rfl, rfl⟩
              go_wp2
              go_ret
              exact ⟨ret_u64 (by rw [hvl.out, HE.out, HC.out]), HB.out⟩
            · go_wp2_with fail
              refine (cut_any l _ wr hr hdl (by omega)).mono ?_
              rintro e w4 ⟨rfl, rfl⟩
              go_wp2
              go_ret
              exact ⟨ret_u64 (by rw [hvl.out, HE.out, HC.out]), HB.out⟩

end Go.Proofs.Ytfhmcgpohpkjgaa
