/-
  The walks of bound.Tokens and edictref09.Tokens over a plan of which only the nodes' kinds and widths count: the sum of the powers, cut at the greatest uint64; what was in memory stays as it was. Conditions: fewer than some 2^44 nodes.
-/
import Derived.Test.YtfhmcgpohpkjgaaW6
namespace Go.Proofs.Ytfhmcgpohpkjgaa
open Go.RowKit Plain

/-- One node's eleven cells. -/
def NodeCells (w : World) (g o : Nat) (x : Int × Int) : Prop :=
  ∃ (p q r s t : Int) (b1 b2 : Bool) (a1 a2 : Option Addr) (n1 n2 c1 c2 : Nat),
    w.cell? ⟨g, o, none⟩ = some (.int .i64 x.1) ∧ w.cell? ⟨g, o + 1, none⟩ = some (.int .i64 p) ∧ w.cell? ⟨g, o + 2, none⟩ = some (.int .i64 q) ∧ w.cell? ⟨g, o + 3, none⟩ = some (.slice a1 n1 c1) ∧
    w.cell? ⟨g, o + 4, none⟩ = some (.slice a2 n2 c2) ∧ w.cell? ⟨g, o + 5, none⟩ = some (.int .i64 r) ∧ w.cell? ⟨g, o + 6, none⟩ = some (.bool b1) ∧ w.cell? ⟨g, o + 7, none⟩ = some (.int .i64 s) ∧
    w.cell? ⟨g, o + 8, none⟩ = some (.bool b2) ∧ w.cell? ⟨g, o + 9, none⟩ = some (.int .i64 t) ∧ w.cell? ⟨g, o + 10, none⟩ = some (.int .i64 x.2)
def NodesAt (w : World) (B : Nat) (v : Value) (ns : List (Int × Int)) : Prop :=
  ∃ (a : Option Addr) (cap : Nat), v = .slice a ns.length cap ∧ (ns = [] ∨ ∃ g off, a = some ⟨g, off, none⟩ ∧ g < B ∧ ∀ j, j < ns.length → NodeCells w g (off + j * 11) (ns[j]?.getD (0, 0)))
def Wid (ns : List (Int × Int)) : Prop := ∀ j : Nat, -9223372036854775808 ≤ (ns[j]?.getD (0, 0)).2 ∧ (ns[j]?.getD (0, 0)).2 ≤ 9223372036854775807

theorem NodeCells.below {w w' : World} {B g o : Nat} {x : Int × Int} (h : NodeCells w g o x) (hg : g < B) (hb : Below B w w') : NodeCells w' g o x := by
  obtain ⟨p, q, r, s, t, b1, b2, a1, a2, n1, n2, c1, c2, h0, h1, h2, h3, h4, h5, h6, h7, h8, h9, h10⟩ := h
  have e : ∀ k, w'.cell? ⟨g, k, none⟩ = w.cell? ⟨g, k, none⟩ := fun k => hb.cell (p := ⟨g, k, none⟩) hg
  exact ⟨p, q, r, s, t, b1, b2, a1, a2, n1, n2, c1, c2, by rw [e, h0], by rw [e, h1], by rw [e, h2], by rw [e, h3], by rw [e, h4], by rw [e, h5], by rw [e, h6], by rw [e, h7], by rw [e, h8], by rw [e, h9], by rw [e, h10]⟩
theorem NodesAt.below {w w' : World} {B : Nat} {v : Value} {l : List (Int × Int)} (h : NodesAt w B v l) (hb : Below B w w') : NodesAt w' B v l := by
  obtain ⟨a, cap, rfl, h⟩ := h
  refine ⟨a, cap, rfl, ?_⟩
  rcases h with rfl | ⟨g, off, rfl, hg, hc⟩
  · exact .inl rfl
  · exact .inr ⟨g, off, rfl, hg, fun j hj => (hc j hj).below hg hb⟩
theorem NodesAt.mono {w : World} {B B' : Nat} {v : Value} {l : List (Int × Int)} (h : NodesAt w B v l) (hb : B ≤ B') : NodesAt w B' v l := by
  obtain ⟨a, cap, rfl, h⟩ := h
  refine ⟨a, cap, rfl, ?_⟩
  rcases h with rfl | ⟨g, off, rfl, hg, hc⟩
  · exact .inl rfl
  · exact .inr ⟨g, off, rfl, by omega, hc⟩

def tval (D : Nat) (x : Int × Int) : Nat := if x.1 = 0 then 0 else sat (D ^ x.2.toNat)
def tsum (D : Nat) (ns : List (Int × Int)) : Nat := (ns.map (tval D)).sum
theorem tsum_take (D : Nat) (ns : List (Int × Int)) (k : Nat) (h : k < ns.length) : tsum D (ns.take (k + 1)) = tsum D (ns.take k) + tval D (ns[k]?.getD (0, 0)) := by
  unfold tsum
  rw [List.take_add_one, List.getElem?_eq_getElem h, List.map_append, List.sum_append]; simp

theorem pow_gen (x y : Int) (A B V : Nat) (hx : x = (A : Int)) (hy : y = (B : Int)) (ha : A < 18446744073709551616) (hb : B < 18446744073709551616) (h : sat (A ^ B) = V) (w : World) :
    Calls Try.prog 23 #[.int .u64 x, .int .u64 y] w fun e w' => e = .returned (.int .u64 (V : Int)) ∧ w = w' := by
  subst hx hy; exact pow_to A B V ha hb h w

def IntIs (d : Int) (D : Nat) : Prop := (d = (D : Int) ∧ D ≤ 9223372036854775807) ∨ (d < 0 ∧ D = 0 ∧ -9223372036854775808 ≤ d)
theorem IntIs.mk {d : Int} (h : -9223372036854775808 ≤ d ∧ d ≤ 9223372036854775807) : IntIs d d.toNat := by unfold IntIs; omega

set_option maxRecDepth 100000 in
set_option maxHeartbeats 3200000 in
theorem tokens_any (d : Int) (D : Nat) (hd : IntIs d D) (ns : List (Int × Int)) (A v E : Value) (w : World) (hA : ∃ a n c, A = .slice a n c) (hE : ∃ a n c, E = .slice a n c) (hv : NodesAt w w.heap.size v ns) (hm : Wid ns) (hn : ns.length ≤ 35184372088832) :
    Calls Try.prog 28 #[.int .i64 d, .agg #[A, v, E]] w (U64Is w (sat (tsum D ns))) := by
  obtain ⟨A1, A2, A3, rfl⟩ := hA
  obtain ⟨E1, E2, E3, rfl⟩ := hE
  obtain ⟨a, cap, rfl, h⟩ := hv
  obtain ⟨V, hV⟩ : ∃ V, V = sat (tsum D ns) := ⟨_, rfl⟩
  rw [← hV]
  have HV := Lib.hid hV
  clear hV
  rcases h with rfl | ⟨g, off, rfl, hg, hc⟩
  · have h0 : V = 0 := HV.out
    subst h0
    clear hn hm HV hd
    go_enter Try.func28, Try.ntmps28
    go_wp2
    refine wp_loop_rounds 1 ?_
    rw [rounds_succ]
    go_wp2
    go_ret
    exact ⟨ret_u64 rfl, (Below.refl _ _).alloc (Nat.le_refl _) _⟩
  · have HD := Lib.hid hd
    clear hd
    go_enter Try.func28, Try.ntmps28
    go_wp2
    go_loopw [5, 11] (fun s k wr => ∃ i : Nat, k = .int .i64 (i : Int) ∧ i ≤ ns.length ∧ s = .int .u64 (sat (tsum D (ns.take i)) : Nat) ∧ Below w.heap.size w wr) (fun _ k _ => ns.length - (intOf k).toNat)
    case atStart => exact ⟨0, rfl, Nat.zero_le _, rfl, (Below.refl _ _).alloc (Nat.le_refl _) _⟩
    case round =>
      obtain ⟨i, rfl, hi, rfl, hnx⟩ := hrel
      have hsz := hnx.size
      by_cases h1 : i < ns.length
      · obtain ⟨x, hmm⟩ : ∃ x : Int × Int, x = ns[i]?.getD (0, 0) := ⟨_, rfl⟩
        obtain ⟨S, hS⟩ : ∃ S : Nat, S = sat (tsum D (ns.take i)) := ⟨_, rfl⟩
        obtain ⟨p, q, r, s, t, b1, b2, a1, a2, n1, n2, c1, c2, e0, e1, e2, e3, e4, e5, e6, e7, e8, e9, e10⟩ := (hc i h1).below hg hnx
        have hm2 := hm i
        rw [← hmm] at e0 e10 hm2
        have hts := tsum_take D ns i h1
        rw [← hmm] at hts
        have hSl : S < 18446744073709551616 := by rw [hS]; exact sat_lt _
        rw [← hS]
        obtain ⟨kd, wd⟩ := x
        simp only at e0 e10 hm2
        by_cases hk : kd = 0
        · have HS := Lib.hid (show sat (tsum D (ns.take (i + 1))) = S by rw [hts, hS]; simp [tval, hk])
          have hkb : (kd != 0) = false := by simp [hk]
          clear hmm hS hts hc hm hk
          go_wp2
          go_roundw
          case rel => exact ⟨i + 1, by go_num, by omega, by rw [HS.out], hnx.alloc hsz _⟩
          case measure => simp only [intOf]; omega
        · obtain ⟨F, hF⟩ : ∃ F : Nat, sat (D ^ wd.toNat) = F := ⟨_, rfl⟩
          have hFl : F < 18446744073709551616 := by rw [← hF]; exact sat_lt _
          have HF := Lib.hid hF
          have HS := Lib.hid (show sat (S + F) = sat (tsum D (ns.take (i + 1))) by rw [hts, hS, ← hF, sat_add_left]; simp [tval, hk])
          have hkb : (kd != 0) = true := by simp [hk]
          have hDb : D < 18446744073709551616 := by have := HD.out; unfold IntIs at this; omega
          clear hmm hS hF hts hc hm hk
          have hd2 : (d = (D : Int) ∧ D ≤ 9223372036854775807) ∨ (d < 0 ∧ D = 0 ∧ -9223372036854775808 ≤ d) := HD.out
          have main : True := trivial
          clear main
          rcases hd2 with ⟨rfl, hd2⟩ | ⟨hd1, rfl, hd3⟩ <;> by_cases hw0 : wd < 0
          all_goals
            go_wp2_with fail
            refine (pow_gen _ _ _ wd.toNat F (by first | rfl | omega) (by omega) hDb (by omega) HF.out _).mono ?_
            rintro e w' ⟨rfl, rfl⟩
            go_wp2_with fail
            refine (sum2_to S F _ _ _ (by simp) hSl hFl HS.out).mono ?_
            rintro e w' ⟨rfl, rfl⟩
            go_wp2
            go_roundw
            case rel => exact ⟨i + 1, by go_num, by omega, rfl, (hnx.alloc hsz _).alloc (by simp; omega) _⟩
            case measure => simp only [intOf]; omega
      · have e : i = ns.length := by omega
        have HE := Lib.hid (show sat (tsum D (ns.take i)) = V by rw [e, List.take_length, HV.out])
        clear e
        go_wp2
        go_ret
        exact ⟨ret_u64 (by rw [HE.out]), hnx⟩

end Go.Proofs.Ytfhmcgpohpkjgaa
