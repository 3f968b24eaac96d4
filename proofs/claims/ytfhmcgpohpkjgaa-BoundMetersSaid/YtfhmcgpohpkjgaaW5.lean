/-
  The walks of bound.Sum and edictref09.Sum over a list of uint64 values: its sum, cut at the greatest uint64; what was in memory stays as it was. Conditions: the list has fewer than some 2^44 elements.
-/
import Derived.Test.YtfhmcgpohpkjgaaW4
namespace Go.Proofs.Ytfhmcgpohpkjgaa
open Go.RowKit Plain

/-- A slice value that reads as the uint64 values l. -/
def ReadsO (w : World) (B : Nat) (v : Value) (l : List Nat) : Prop :=
  ∃ (a : Option Addr) (cap : Nat), v = .slice a l.length cap ∧ (l = [] ∨ ∃ g off, a = some ⟨g, off, none⟩ ∧ g < B ∧ ∀ j, j < l.length → w.cell? ⟨g, off + j, none⟩ = some (.int .u64 ((l[j]?.getD 0 : Nat) : Int)))
def U64s (l : List Nat) : Prop := ∀ j : Nat, l[j]?.getD 0 < 18446744073709551616
theorem ReadsO.below {w w' : World} {B : Nat} {v : Value} {l : List Nat} (h : ReadsO w B v l) (hb : Below B w w') : ReadsO w' B v l := by
  obtain ⟨a, cap, rfl, h⟩ := h
  refine ⟨a, cap, rfl, ?_⟩
  rcases h with rfl | ⟨g, off, rfl, hg, hc⟩
  · exact .inl rfl
  · exact .inr ⟨g, off, rfl, hg, fun j hj => (hb.cell (p := ⟨g, off + j, none⟩) hg).trans (hc j hj)⟩
theorem ReadsO.mono {w : World} {B B' : Nat} {v : Value} {l : List Nat} (h : ReadsO w B v l) (hb : B ≤ B') : ReadsO w B' v l := by
  obtain ⟨a, cap, rfl, h⟩ := h
  refine ⟨a, cap, rfl, ?_⟩
  rcases h with rfl | ⟨g, off, rfl, hg, hc⟩
  · exact .inl rfl
  · exact .inr ⟨g, off, rfl, by omega, hc⟩

theorem take_sum (l : List Nat) (k : Nat) (h : k < l.length) : (l.take (k + 1)).sum = (l.take k).sum + l[k]?.getD 0 := by
  rw [List.take_add_one, List.getElem?_eq_getElem h, List.sum_append]; simp

theorem add_to (a b V : Nat) (h : sat (a + b) = V) (w : World) :
    Calls Try.prog 16 #[.int .u64 (a : Int), .int .u64 (b : Int)] w fun e w' => e = .returned (.int .u64 (V : Int)) ∧ w = w' := by
  subst h; exact add_any a b w
theorem mul_to (a b V : Nat) (ha : a < 18446744073709551616) (hb : b < 18446744073709551616) (h : sat (a * b) = V) (w : World) :
    Calls Try.prog 18 #[.int .u64 (a : Int), .int .u64 (b : Int)] w fun e w' => e = .returned (.int .u64 (V : Int)) ∧ w = w' := by
  subst h; exact mul_any a b ha hb w
theorem pow_to (a b V : Nat) (ha : a < 18446744073709551616) (hb : b < 18446744073709551616) (h : sat (a ^ b) = V) (w : World) :
    Calls Try.prog 23 #[.int .u64 (a : Int), .int .u64 (b : Int)] w fun e w' => e = .returned (.int .u64 (V : Int)) ∧ w = w' := by
  subst h; exact pow_any a b ha hb w

set_option maxRecDepth 100000 in
set_option maxHeartbeats 800000 in
theorem sum_any (l : List Nat) (v : Value) (w : World) (hv : ReadsO w w.heap.size v l) (hl : U64s l) (hn : l.length ≤ 35184372088832) :
    Calls Try.prog 20 #[v] w fun e w' => e = .returned (.int .u64 (sat l.sum : Nat)) ∧ w = w' := by
  obtain ⟨a, cap, rfl, h⟩ := hv
  obtain ⟨V, hV⟩ : ∃ V, V = sat l.sum := ⟨_, rfl⟩
  rw [← hV]
  have HV := Lib.hid hV
  clear hV
  rcases h with rfl | ⟨g, off, rfl, hg, hc⟩
  · have h0 : V = 0 := HV.out
    subst h0
    clear hn hl HV
    go_enter Try.func20, Try.ntmps20
    go_wp2
    refine wp_loop_rounds 1 ?_
    rw [rounds_succ]
    go_wp2
    go_ret
    exact ⟨ret_u64 rfl, rfl⟩
  · go_enter Try.func20, Try.ntmps20
    go_wp2
    go_loop [3, 8] (fun s k => ∃ i : Nat, k = .int .i64 (i : Int) ∧ i ≤ l.length ∧ s = .int .u64 (sat (l.take i).sum : Nat)) (fun _ k => l.length - (intOf k).toNat)
    case atStart => exact ⟨0, rfl, Nat.zero_le _, rfl⟩
    case round =>
      obtain ⟨i, rfl, hi, rfl⟩ := hrel
      by_cases h1 : i < l.length
      · obtain ⟨x, hx⟩ : ∃ x : Nat, x = l[i]?.getD 0 := ⟨_, rfl⟩
        obtain ⟨S, hS⟩ : ∃ S : Nat, S = sat (l.take i).sum := ⟨_, rfl⟩
        have hcell : w.cell? ⟨g, off + i, none⟩ = some (.int .u64 (x : Int)) := by rw [hx]; exact hc i h1
        have HS := Lib.hid (show sat (S + x) = sat (l.take (i + 1)).sum by rw [hS, sat_add_left, take_sum l i h1, hx])
        rw [← hS]
        clear hx hS hc
        go_wp2_with fail
        refine (add_to S x _ HS.out w).mono ?_
        rintro e w' ⟨rfl, rfl⟩
        go_wp2
        go_round
        case rel => exact ⟨i + 1, by go_num, by omega, rfl⟩
        case measure => simp only [intOf]; omega
      · have e : i = l.length := by omega
        have HE := Lib.hid (show sat (l.take i).sum = V by rw [e, List.take_length, HV.out])
        clear e
        go_wp2
        go_ret
        exact ⟨ret_u64 (by rw [HE.out]), rfl⟩

/-- The loop's relation in edictref09.Sum. -/
def SumRel (w : World) (l : List Nat) (v k : Value) (wr : World) : Prop :=
  ∃ (o : List Nat) (i : Nat), k = .int .i64 (i : Int) ∧ i ≤ l.length ∧ wr.ownsRow w.heap.size 22 1 v o.length (dig o) ∧ Below w.heap.size w wr ∧ Dig o ∧ Hid (val o = (l.take i).sum) ∧ o.length ≤ 4 + i

/-- One round of a sum of long numbers: 'out = plus(out, of(x))'. -/
theorem sum_round {w wr w2 w3 : World} {o l2 l3 : List Nat} {v3 : Value} {n x i : Nat} (hnx : Below w.heap.size w wr) (hb2 : Below wr.heap.size wr w2) (ho3 : w3.ownsRow w2.heap.size 22 1 v3 l3.length (dig l3)) (hb3 : Below w2.heap.size w2 w3)
    (hvo : val o = n) (hv2 : val l2 = x) (hv3 : val l3 = val o + val l2) (hol : o.length ≤ 4 + i) (hl2 : l2.length ≤ 4) (hl3 : l3.length ≤ max o.length l2.length + 1) :
    w3.ownsRow w.heap.size 22 1 v3 l3.length (dig l3) ∧ Below w.heap.size w w3 ∧ Hid (val l3 = n + x) ∧ l3.length ≤ 4 + (i + 1) := by
  have h1 := hnx.size
  have h2 := hb2.size
  refine ⟨Joins.ownsRow_le ho3 (by omega), hnx.trans ((hb2.mono h1).trans (hb3.mono (by omega))), ?_, by omega⟩
  unfold Hid; omega

set_option maxRecDepth 100000 in
set_option maxHeartbeats 800000 in
theorem refSum_any (l : List Nat) (v : Value) (w : World) (hv : ReadsO w w.heap.size v l) (hl : U64s l) (hn : l.length ≤ 17592186044390) :
    Calls Try.prog 21 #[v] w (U64Is w (sat l.sum)) := by
  obtain ⟨a, cap, rfl, h⟩ := hv
  obtain ⟨V, hV⟩ : ∃ V, V = sat l.sum := ⟨_, rfl⟩
  rw [← hV]
  have HV := Lib.hid hV
  clear hV
  have hd0 : Dig [] := Dig.nil
  rcases h with rfl | ⟨g, off, rfl, hg, hc⟩
  · have h0 : V = 0 := HV.out
    subst h0
    clear hn hl HV
    have hr : Reads w w.heap.size (.slice none 0 0) [] := .inl ⟨rfl, rfl⟩
    go_enter Try.func21, Try.ntmps21
    go_wp2_with fail
    refine wp_loop_rounds 1 ?_
    rw [rounds_succ]
    go_wp2_with fail
    refine (cut_any [] _ w hr hd0 (by simp)).mono ?_
    rintro e w4 ⟨rfl, rfl⟩
    go_wp2
    go_ret
    exact ⟨ret_u64 rfl, Below.refl _ _⟩
  · go_enter Try.func21, Try.ntmps21
    go_wp2
    go_loopw [3, 8] (fun v k wr => SumRel w l v k wr) (fun _ k _ => l.length - (intOf k).toNat)
    case atStart => exact ⟨[], 0, rfl, Nat.zero_le _, World.ownsRow_nil _ _ _ _, Below.refl _ _, hd0, rfl, by simp⟩
    case round =>
      obtain ⟨o, i, rfl, hi, hown, hnx, hdo, hvo, hol⟩ := hrel
      have hsz := hnx.size
      by_cases h1 : i < l.length
      · obtain ⟨x, hx⟩ : ∃ x : Nat, x = l[i]?.getD 0 := ⟨_, rfl⟩
        have hxl : x < 18446744073709551616 := by rw [hx]; exact hl i
        have hcell : wr.cell? ⟨g, off + i, none⟩ = some (.int .u64 (x : Int)) := by rw [hx]; exact (hnx.cell (p := ⟨g, off + i, none⟩) hg).trans (hc i h1)
        have HS := Lib.hid (show (l.take i).sum + x = (l.take (i + 1)).sum by rw [take_sum l i h1, hx])
        clear hx hc
        go_wp2_with fail
        refine (of_any x hxl wr).mono ?_
        rintro e w2 ⟨v2, l2, rfl, ho2, hb2, hd2, hv2, hl2⟩
        have HV2 := Lib.hid hv2
        clear hv2
        go_wp2_with fail
        refine (plus_any o l2 _ v2 w2 (reads_of_owns (ownsRow_below hown hb2)) (reads_of_owns ho2) hdo hd2 (by omega) (by omega)).mono ?_
        rintro e w3 ⟨v3, l3, rfl, ho3, hb3, hd3, hv3, hl3⟩
        have R := sum_round hnx hb2 ho3 hb3 hvo.out HV2.out hv3 hol hl2 hl3
        rw [HS.out] at R
        clear hv3 hl3 ho3 hb3 hown hnx ho2 hb2
        go_wp2
        go_roundw
        case rel => exact ⟨l3, i + 1, by go_num, by omega, R.1, R.2.1, hd3, R.2.2.1, R.2.2.2⟩
        case measure => simp only [intOf]; omega
      · have hr := reads_of_owns hown
        have e : i = l.length := by omega
        have HE := Lib.hid (show val o = l.sum by rw [hvo.out, e, List.take_length])
        have HB := Lib.hid hnx
        clear e hnx
        go_wp2_with fail
        refine (cut_any o _ wr hr hdo (by omega)).mono ?_
        rintro e w4 ⟨rfl, rfl⟩
        go_wp2
        go_ret
        exact ⟨ret_u64 (by rw [HE.out, HV.out]), HB.out⟩

end Go.Proofs.Ytfhmcgpohpkjgaa
