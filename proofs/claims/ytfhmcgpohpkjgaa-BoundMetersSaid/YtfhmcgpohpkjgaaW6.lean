/-
  The walks of bound.Firings and edictref09.Firings over a slice of rules of which only the numbers of variables count: the sum of the powers, cut at the greatest uint64; what was in memory stays as it was. Conditions: fewer than some 2^44 rules.
-/
import Derived.Test.YtfhmcgpohpkjgaaL4
import Derived.Deep.RegionHeld3
namespace Go.Proofs.Ytfhmcgpohpkjgaa
open Go.RowKit Plain

/-- One rule's seven cells, with m variables. -/
def RuleCells (w : World) (g o m : Nat) : Prop :=
  ∃ (p q : Int) (a1 a2 a3 a4 a5 : Option Addr) (n1 n2 n3 n4 c1 c2 c3 c4 c5 : Nat),
    w.cell? ⟨g, o, none⟩ = some (.int .i64 p) ∧ w.cell? ⟨g, o + 1, none⟩ = some (.slice a1 n1 c1) ∧ w.cell? ⟨g, o + 2, none⟩ = some (.slice a2 n2 c2) ∧ w.cell? ⟨g, o + 3, none⟩ = some (.slice a3 n3 c3) ∧
    w.cell? ⟨g, o + 4, none⟩ = some (.slice a4 n4 c4) ∧ w.cell? ⟨g, o + 5, none⟩ = some (.slice a5 m c5) ∧ w.cell? ⟨g, o + 6, none⟩ = some (.int .i64 q)
/-- A slice of rules with these numbers of variables. -/
def RulesAt (w : World) (B : Nat) (v : Value) (ms : List Nat) : Prop :=
  ∃ (a : Option Addr) (cap : Nat), v = .slice a ms.length cap ∧ (ms = [] ∨ ∃ g off, a = some ⟨g, off, none⟩ ∧ g < B ∧ ∀ j, j < ms.length → RuleCells w g (off + j * 7) (ms[j]?.getD 0))
def Vars (ms : List Nat) : Prop := ∀ j : Nat, ms[j]?.getD 0 ≤ 9223372036854775807

theorem RuleCells.below {w w' : World} {B g o m : Nat} (h : RuleCells w g o m) (hg : g < B) (hb : Below B w w') : RuleCells w' g o m := by
  obtain ⟨p, q, a1, a2, a3, a4, a5, n1, n2, n3, n4, c1, c2, c3, c4, c5, h0, h1, h2, h3, h4, h5, h6⟩ := h
  have e : ∀ k, w'.cell? ⟨g, k, none⟩ = w.cell? ⟨g, k, none⟩ := fun k => hb.cell (p := ⟨g, k, none⟩) hg
  exact ⟨p, q, a1, a2, a3, a4, a5, n1, n2, n3, n4, c1, c2, c3, c4, c5, by rw [e, h0], by rw [e, h1], by rw [e, h2], by rw [e, h3], by rw [e, h4], by rw [e, h5], by rw [e, h6]⟩
theorem RulesAt.below {w w' : World} {B : Nat} {v : Value} {l : List Nat} (h : RulesAt w B v l) (hb : Below B w w') : RulesAt w' B v l := by
  obtain ⟨a, cap, rfl, h⟩ := h
  refine ⟨a, cap, rfl, ?_⟩
  rcases h with rfl | ⟨g, off, rfl, hg, hc⟩
  · exact .inl rfl
  · exact .inr ⟨g, off, rfl, hg, fun j hj => (hc j hj).below hg hb⟩
theorem RulesAt.mono {w : World} {B B' : Nat} {v : Value} {l : List Nat} (h : RulesAt w B v l) (hb : B ≤ B') : RulesAt w B' v l := by
  obtain ⟨a, cap, rfl, h⟩ := h
  refine ⟨a, cap, rfl, ?_⟩
  rcases h with rfl | ⟨g, off, rfl, hg, hc⟩
  · exact .inl rfl
  · exact .inr ⟨g, off, rfl, by omega, hc⟩

/-- The sum of the powers, each cut. -/
def fsum (D : Nat) (ms : List Nat) : Nat := (ms.map fun m => sat (D ^ m)).sum
theorem fsum_take (D : Nat) (ms : List Nat) (k : Nat) (h : k < ms.length) : fsum D (ms.take (k + 1)) = fsum D (ms.take k) + sat (D ^ (ms[k]?.getD 0)) := by
  unfold fsum
  rw [List.take_add_one, List.getElem?_eq_getElem h, List.map_append, List.sum_append]; simp

theorem sum_to' (l : List Nat) (V : Nat) (v : Value) (w : World) (hv : ReadsO w w.heap.size v l) (hl : U64s l) (hn : l.length ≤ 35184372088832) (h : sat l.sum = V) :
    Calls Try.prog 20 #[v] w fun e w' => e = .returned (.int .u64 (V : Int)) ∧ w = w' := by
  subst h; exact sum_any l v w hv hl hn
theorem reads2 (a b : Nat) (w : World) (o : Obj) (ho : o = .cells #[.int .u64 (a : Int), .int .u64 (b : Int)] 22) : ReadsO (w.alloc o) (w.alloc o).heap.size (.slice (some ⟨w.heap.size, 0, none⟩) 2 2) [a, b] := by
  subst ho
  refine ⟨_, 2, rfl, .inr ⟨w.heap.size, 0, rfl, by simp, fun j hj => ?_⟩⟩
  match j, hj with
  | 0, _ => simp [World.cell?_alloc_at]
  | 1, _ => simp [World.cell?_alloc_at]
theorem u64s2 {a b : Nat} (ha : a < 18446744073709551616) (hb : b < 18446744073709551616) : U64s [a, b] := fun j => by
  match j with
  | 0 => simpa using ha
  | 1 => simpa using hb
  | j + 2 => simp

/-- 'Sum(a, b)' over a new array of two. -/
theorem sum2_to (a b V : Nat) (w : World) (G : Nat) (hG : G = w.heap.size) (ha : a < 18446744073709551616) (hb : b < 18446744073709551616) (h : sat (a + b) = V) :
    Calls Try.prog 20 #[.slice (some ⟨G, 0, none⟩) 2 2] (w.alloc (.cells #[.int .u64 (a : Int), .int .u64 (b : Int)] 22)) fun e w' => e = .returned (.int .u64 (V : Int)) ∧ (w.alloc (.cells #[.int .u64 (a : Int), .int .u64 (b : Int)] 22)) = w' := by
  subst hG
  exact sum_to' [a, b] V _ _ (reads2 a b w _ rfl) (u64s2 ha hb) (by simp) (by rw [← h]; simp)

set_option maxRecDepth 100000 in
set_option maxHeartbeats 1600000 in
theorem firings_any (d : Int) (D : Nat) (hd : (d = (D : Int) ∧ D ≤ 9223372036854775807) ∨ (d < 0 ∧ D = 0 ∧ -9223372036854775808 ≤ d)) (ms : List Nat) (v : Value) (w : World) (hv : RulesAt w w.heap.size v ms) (hm : Vars ms) (hn : ms.length ≤ 35184372088832) :
    Calls Try.prog 26 #[.int .i64 d, v] w (U64Is w (sat (fsum D ms))) := by
  obtain ⟨a, cap, rfl, h⟩ := hv
  obtain ⟨V, hV⟩ : ∃ V, V = sat (fsum D ms) := ⟨_, rfl⟩
  rw [← hV]
  have HV := Lib.hid hV
  clear hV
  rcases h with rfl | ⟨g, off, rfl, hg, hc⟩
  · have h0 : V = 0 := HV.out
    subst h0
    clear hn hm HV hd
    go_enter Try.func26, Try.ntmps26
    go_wp2
    refine wp_loop_rounds 1 ?_
    rw [rounds_succ]
    go_wp2
    go_ret
    exact ⟨ret_u64 rfl, Below.refl _ _⟩
  · have HD := Lib.hid hd
    clear hd
    go_enter Try.func26, Try.ntmps26
    go_wp2
    go_loopw [5, 10] (fun s k wr => ∃ i : Nat, k = .int .i64 (i : Int) ∧ i ≤ ms.length ∧ s = .int .u64 (sat (fsum D (ms.take i)) : Nat) ∧ Below w.heap.size w wr) (fun _ k _ => ms.length - (intOf k).toNat)
    case atStart => exact ⟨0, rfl, Nat.zero_le _, rfl, Below.refl _ _⟩
    case round =>
      obtain ⟨i, rfl, hi, rfl, hnx⟩ := hrel
      have hsz := hnx.size
      by_cases h1 : i < ms.length
      · obtain ⟨m, hmm⟩ : ∃ m : Nat, m = ms[i]?.getD 0 := ⟨_, rfl⟩
        obtain ⟨S, hS⟩ : ∃ S : Nat, S = sat (fsum D (ms.take i)) := ⟨_, rfl⟩
        obtain ⟨F, hF⟩ : ∃ F : Nat, sat (D ^ m) = F := ⟨_, rfl⟩
        obtain ⟨p, q, a1, a2, a3, a4, a5, n1, n2, n3, n4, k1, k2, k3, k4, k5, e0, e1, e2, e3, e4, e5, e6⟩ := (hc i h1).below hg hnx
        rw [← hmm] at e5
        have hS2 : sat (S + F) = sat (fsum D (ms.take (i + 1))) := by rw [hS, ← hF, sat_add_left, fsum_take D ms i h1, hmm]
        have hm2 : m ≤ 9223372036854775807 := by rw [hmm]; exact hm i
        have hSl : S < 18446744073709551616 := by rw [hS]; exact sat_lt _
        have hFl : F < 18446744073709551616 := by rw [← hF]; exact sat_lt _
        have HS := Lib.hid hS2
        have HF := Lib.hid hF
        rw [← hS]
        clear hmm hS hF hS2 hc hm
        rcases HD.out with ⟨hd1, hd2⟩ | ⟨hd1, hd2, hd3⟩
        · subst hd1
          go_wp2_with fail
          refine (pow_to D m F (by omega) (by omega) HF.out _).mono ?_
          rintro e w' ⟨rfl, rfl⟩
          go_wp2_with fail
          refine (sum2_to S F _ _ _ (by simp) hSl hFl HS.out).mono ?_
          rintro e w' ⟨rfl, rfl⟩
          go_wp2
          go_roundw
          case rel => exact ⟨i + 1, by go_num, by omega, rfl, (hnx.alloc hsz _).alloc (by simp; omega) _⟩
          case measure => simp only [intOf]; omega
        · subst hd2
          go_wp2_with fail
          refine (pow_to 0 m F (by omega) (by omega) HF.out _).mono ?_
          rintro e w' ⟨rfl, rfl⟩
          go_wp2_with fail
          refine (sum2_to S F _ _ _ (by simp) hSl hFl HS.out).mono ?_
          rintro e w' ⟨rfl, rfl⟩
          go_wp2
          go_roundw
          case rel => exact ⟨i + 1, by go_num, by omega, rfl, (hnx.alloc hsz _).alloc (by simp; omega) _⟩
          case measure => simp only [intOf]; omega
      · have e : i = ms.length := by omega
        have HE := Lib.hid (show sat (fsum D (ms.take i)) = V by rw [e, List.take_length, HV.out])
        clear e
        go_wp2
        go_ret
        exact ⟨ret_u64 (by rw [HE.out]), hnx⟩

theorem plain_any (d : Int) (D : Nat) (hd : (d = (D : Int) ∧ D ≤ 9223372036854775807) ∨ (d < 0 ∧ D = 0 ∧ -9223372036854775808 ≤ d)) (w : World) :
    Calls Try.prog 47 #[.int .i64 d] w fun e w' => e = .returned (.int .u64 (D : Int)) ∧ w = w' := by
  rcases hd with ⟨rfl, h2⟩ | ⟨h1, rfl, h3⟩
  · go_enter Try.func47, Try.ntmps47
    go_wp2
    go_ret
    exact ⟨rfl, rfl⟩
  · go_enter Try.func47, Try.ntmps47
    go_wp2
    go_ret
    exact ⟨rfl, rfl⟩

/-- The loop's relation in edictref09.Firings. -/
def FirRel (w : World) (D : Nat) (ms : List Nat) (v k : Value) (wr : World) : Prop :=
  ∃ (o : List Nat) (i : Nat), k = .int .i64 (i : Int) ∧ i ≤ ms.length ∧ wr.ownsRow w.heap.size 22 1 v o.length (dig o) ∧ Below w.heap.size w wr ∧ Dig o ∧ Hid (val o = fsum D (ms.take i)) ∧ o.length ≤ 4 + i

theorem sum_round' {w wr wb w1 w2 w3 : World} {o l2 l3 : List Nat} {v3 : Value} {n x i : Nat} (hnx : Below w.heap.size w wr) (hb : Below wr.heap.size wr wb) (hb1 : Below wb.heap.size wb w1) (hb2 : Below w1.heap.size w1 w2) (ho3 : w3.ownsRow w2.heap.size 22 1 v3 l3.length (dig l3)) (hb3 : Below w2.heap.size w2 w3)
    (hvo : val o = n) (hv2 : val l2 = x) (hv3 : val l3 = val o + val l2) (hol : o.length ≤ 4 + i) (hl2 : l2.length ≤ 4) (hl3 : l3.length ≤ max o.length l2.length + 1) :
    w3.ownsRow w.heap.size 22 1 v3 l3.length (dig l3) ∧ Below w.heap.size w w3 ∧ Hid (val l3 = n + x) ∧ l3.length ≤ 4 + (i + 1) := by
  have h0 := hnx.size
  have h1 := hb.size
  have h2 := hb1.size
  have h3 := hb2.size
  refine ⟨Joins.ownsRow_le ho3 (by omega), hnx.trans ((hb.mono h0).trans ((hb1.mono (by omega)).trans ((hb2.mono (by omega)).trans (hb3.mono (by omega))))), ?_, by omega⟩
  unfold Hid; omega

set_option maxRecDepth 100000 in
set_option maxHeartbeats 1600000 in
theorem refFirings_any (d : Int) (D : Nat) (hd : (d = (D : Int) ∧ D ≤ 9223372036854775807) ∨ (d < 0 ∧ D = 0 ∧ -9223372036854775808 ≤ d)) (ms : List Nat) (v : Value) (w : World) (hv : RulesAt w w.heap.size v ms) (hm : Vars ms) (hn : ms.length ≤ 17592186044390) :
    Calls Try.prog 25 #[.int .i64 d, v] w (U64Is w (sat (fsum D ms))) := by
  obtain ⟨a, cap, rfl, h⟩ := hv
  obtain ⟨V, hV⟩ : ∃ V, V = sat (fsum D ms) := ⟨_, rfl⟩
  rw [← hV]
  have HV := Lib.hid hV
  clear hV
  have hd0 : Dig [] := Dig.nil
  rcases h with rfl | ⟨g, off, rfl, hg, hc⟩
  · have h0 : V = 0 := HV.out
    subst h0
    clear hn hm HV hd
    have hr : Reads w w.heap.size (.slice none 0 0) [] := .inl ⟨rfl, rfl⟩
    go_enter Try.func25, Try.ntmps25
    go_wp2_with fail
    refine wp_loop_rounds 1 ?_
    rw [rounds_succ]
    go_wp2_with fail
    refine (cut_any [] _ w hr hd0 (by simp)).mono ?_
    rintro e w4 ⟨rfl, rfl⟩
    go_wp2
    go_ret
    exact ⟨ret_u64 rfl, Below.refl _ _⟩
  · have HD := Lib.hid hd
    have hDb : D < 18446744073709551616 := by omega
    clear hd
    go_enter Try.func25, Try.ntmps25
    go_wp2
    go_loopw [5, 10] (fun v k wr => FirRel w D ms v k wr) (fun _ k _ => ms.length - (intOf k).toNat)
    case atStart => exact ⟨[], 0, rfl, Nat.zero_le _, World.ownsRow_nil _ _ _ _, Below.refl _ _, hd0, rfl, by simp⟩
    case round =>
      obtain ⟨o, i, rfl, hi, hown, hnx, hdo, hvo, hol⟩ := hrel
      have hsz := hnx.size
      by_cases h1 : i < ms.length
      · obtain ⟨m, hmm⟩ : ∃ m : Nat, m = ms[i]?.getD 0 := ⟨_, rfl⟩
        obtain ⟨F, hF⟩ : ∃ F : Nat, sat (D ^ m) = F := ⟨_, rfl⟩
        obtain ⟨p, q, a1, a2, a3, a4, a5, n1, n2, n3, n4, k1, k2, k3, k4, k5, e0, e1, e2, e3, e4, e5, e6⟩ := (hc i h1).below hg hnx
        rw [← hmm] at e5
        have hm2 : m ≤ 9223372036854775807 := by rw [hmm]; exact hm i
        have hFl : F < 18446744073709551616 := by rw [← hF]; exact sat_lt _
        have HF := Lib.hid hF
        have HS := Lib.hid (show fsum D (ms.take i) + F = fsum D (ms.take (i + 1)) by rw [fsum_take D ms i h1, ← hF, hmm])
        have hb0 : Below wr.heap.size wr (wr.alloc (.cells #[.int .i64 p, .slice a1 n1 k1, .slice a2 n2 k2, .slice a3 n3 k3, .slice a4 n4 k4, .slice a5 m k5, .int .i64 q] 63)) := (Below.refl _ _).alloc (Nat.le_refl _) _
        clear hmm hF hc hm
        go_wp2_with fail
        have hb0' := hb0
        generalize hW : wr.alloc (.cells #[.int .i64 p, .slice a1 n1 k1, .slice a2 n2 k2, .slice a3 n3 k3, .slice a4 n4 k4, .slice a5 m k5, .int .i64 q] 63) = wb at hb0' ⊢
        have cb : wb.cell? ⟨wr.heap.size, 5, none⟩ = some (.slice a5 m k5) := by rw [← hW]; simp [World.cell?_alloc_at]
        have hcb : Below wr.heap.size wr wb := hb0'
        have hszb : wr.heap.size < wb.heap.size := by rw [← hW]; simp
        have hro := reads_of_owns (ownsRow_below hown hcb)
        clear hW
        have hwm : IntKind.u64.wrap (m : Int) = (m : Int) := IntWalk.u64_in _ (by omega)
        go_region_held3 (fun w' => w'.cell? ⟨wr.heap.size, 5, none⟩ = some (.slice a5 m k5)) (first | exact cb | exact hc1 | exact hc2 | exact hc3)
          (first
            | (go_at_call 47; refine (plain_any d D HD.out _).mono ?_; rintro e w' ⟨rfl, rfl⟩)
            | (go_at_call 24; refine (refPow_any D m hDb (by omega) _).mono ?_; rintro e w1 ⟨rfl, hb1'⟩; rw [HF.out]; have hb1 : Below wb.heap.size wb w1 := ⟨hb1'.os, hb1'.tape, hb1'.output, hb1'.size, hb1'.block⟩; clear hb1'; have hz1 := hb1.size; have hc1 := (hb1.cell (p := ⟨wr.heap.size, 5, none⟩) hszb).trans cb)
            | (go_at_call 44; refine (of_any F hFl _).mono ?_; rintro e w2 ⟨v2, l2, rfl, ho2', hb2', hd2, hv2, hl2⟩; have hb2 : Below w1.heap.size w1 w2 := ⟨hb2'.os, hb2'.tape, hb2'.output, hb2'.size, hb2'.block⟩; have ho2 : w2.ownsRow w1.heap.size 22 1 v2 l2.length (dig l2) := ho2'; clear hb2' ho2'; have hz2 := hb2.size; have HV2 := Lib.hid hv2; clear hv2; have hc2 := (hb2.cell (p := ⟨wr.heap.size, 5, none⟩) (Nat.lt_of_lt_of_le hszb hz1)).trans hc1; have hro2 : Reads w2 w2.heap.size _ o := ((hro.below hb1).mono hz1 |>.below hb2).mono hz2; have hrl2 := reads_of_owns ho2)
            | (go_at_call 43; refine (plus_any o l2 _ v2 _ hro2 hrl2 hdo hd2 (by omega) (by omega)).mono ?_; rintro e w3 ⟨v3, l3, rfl, ho3, hb3, hd3, hv3, hl3⟩; have R := sum_round' hnx hcb hb1 hb2 ho3 hb3 hvo.out HV2.out hv3 hol hl2 hl3; rw [HS.out] at R; have hc3 := (hb3.cell (p := ⟨wr.heap.size, 5, none⟩) (Nat.lt_of_lt_of_le hszb (Nat.le_trans hz1 hz2))).trans hc2; clear hv3 hl3 ho3 hb3))
        go_wp2
        go_goals
        go_roundw
        case rel => exact ⟨l3, i + 1, by go_num, by omega, R.1, R.2.1, hd3, R.2.2.1, R.2.2.2⟩
        case measure => simp only [intOf]; omega
      · have hr := reads_of_owns hown
        have e : i = ms.length := by omega
        have HE := Lib.hid (show val o = fsum D ms by rw [hvo.out, e, List.take_length])
        have HB := Lib.hid hnx
        clear e hnx
        go_wp2_with fail
        refine (cut_any o _ wr hr hdo (by omega)).mono ?_
        rintro e w4 ⟨rfl, rfl⟩
        go_wp2
        go_ret
        exact ⟨ret_u64 (by rw [HE.out, HV.out]), HB.out⟩

end Go.Proofs.Ytfhmcgpohpkjgaa
