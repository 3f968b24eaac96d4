/-
  The walk of edictref09.Tokens: the sum of the powers, cut at the greatest uint64; what was in memory stays as it was. Conditions: fewer than some 2^44 nodes.
-/
import Derived.Test.YtfhmcgpohpkjgaaW7
namespace Go.Proofs.Ytfhmcgpohpkjgaa
open Go.RowKit Plain

/-- The loop's relation in edictref09.Tokens. -/
def TokRel (w : World) (D : Nat) (ns : List (Int × Int)) (v k : Value) (wr : World) : Prop :=
  ∃ (o : List Nat) (i : Nat), k = .int .i64 (i : Int) ∧ i ≤ ns.length ∧ wr.ownsRow w.heap.size 22 1 v o.length (dig o) ∧ Below w.heap.size w wr ∧ Dig o ∧ Hid (val o = tsum D (ns.take i)) ∧ o.length ≤ 4 + i

set_option maxRecDepth 100000 in
set_option maxHeartbeats 3200000 in
theorem refTokens_any (d : Int) (D : Nat) (hd : IntIs d D) (ns : List (Int × Int)) (A v E : Value) (w : World) (hA : ∃ a n c, A = .slice a n c) (hE : ∃ a n c, E = .slice a n c) (hv : NodesAt w w.heap.size v ns) (hm : Wid ns) (hn : ns.length ≤ 17592186044390) :
    Calls Try.prog 27 #[.int .i64 d, .agg #[A, v, E]] w (U64Is w (sat (tsum D ns))) := by
  obtain ⟨A1, A2, A3, rfl⟩ := hA
  obtain ⟨E1, E2, E3, rfl⟩ := hE
  obtain ⟨a, cap, rfl, h⟩ := hv
  obtain ⟨V, hV⟩ : ∃ V, V = sat (tsum D ns) := ⟨_, rfl⟩
  rw [← hV]
  have HV := Lib.hid hV
  clear hV
  have hd0 : Dig [] := Dig.nil
  rcases h with rfl | ⟨g, off, rfl, hg, hc⟩
  · have h0 : V = 0 := HV.out
    subst h0
    clear hn hm HV hd
    have hr : ∀ w, Reads w w.heap.size (.slice none 0 0) [] := fun w => .inl ⟨rfl, rfl⟩
    go_enter Try.func27, Try.ntmps27
    go_wp2_with fail
    refine wp_loop_rounds 1 ?_
    rw [rounds_succ]
    go_wp2_with fail
    refine (cut_any [] _ _ (hr _) hd0 (by simp)).mono ?_
    rintro e w4 ⟨rfl, rfl⟩
    go_wp2
    go_ret
    exact ⟨ret_u64 rfl, (Below.refl _ _).alloc (Nat.le_refl _) _⟩
  · have HD := Lib.hid hd
    have hDb : D < 18446744073709551616 := by unfold IntIs at hd; omega
    clear hd
    go_enter Try.func27, Try.ntmps27
    go_wp2
    go_loopw [5, 11] (fun v k wr => TokRel w D ns v k wr) (fun _ k _ => ns.length - (intOf k).toNat)
    case atStart => exact ⟨[], 0, rfl, Nat.zero_le _, World.ownsRow_nil _ _ _ _, (Below.refl _ _).alloc (Nat.le_refl _) _, hd0, rfl, by simp⟩
    case round =>
      obtain ⟨o, i, rfl, hi, hown, hnx, hdo, hvo, hol⟩ := hrel
      have hsz := hnx.size
      by_cases h1 : i < ns.length
      · obtain ⟨x, hmm⟩ : ∃ x : Int × Int, x = ns[i]?.getD (0, 0) := ⟨_, rfl⟩
        obtain ⟨p, q, r, s, t, b1, b2, a1, a2, n1, n2, c1, c2, e0, e1, e2, e3, e4, e5, e6, e7, e8, e9, e10⟩ := (hc i h1).below hg hnx
        have hm2 := hm i
        rw [← hmm] at e0 e10 hm2
        have hts := tsum_take D ns i h1
        rw [← hmm] at hts
        obtain ⟨kd, wd⟩ := x
        simp only at e0 e10 hm2
        have hb0 : Below wr.heap.size wr (wr.alloc (.cells #[.int .i64 kd, .int .i64 p, .int .i64 q, .slice a1 n1 c1, .slice a2 n2 c2, .int .i64 r, .bool b1, .int .i64 s, .bool b2, .int .i64 t, .int .i64 wd] 70)) := (Below.refl _ _).alloc (Nat.le_refl _) _
        by_cases hk : kd = 0
        · have HS := Lib.hid (show val o = tsum D (ns.take (i + 1)) by rw [hts, hvo.out]; simp [tval, hk])
          have hkb : (kd != 0) = false := by simp [hk]
          clear hmm hts hc hm hk
          go_wp2
          go_roundw
          case rel => exact ⟨o, i + 1, by go_num, by omega, hown.alloc _, hnx.alloc hsz _, hdo, HS, by omega⟩
          case measure => simp only [intOf]; omega
        · obtain ⟨F, hF⟩ : ∃ F : Nat, sat (D ^ wd.toNat) = F := ⟨_, rfl⟩
          obtain ⟨m, hwm⟩ : ∃ m : Nat, m = wd.toNat := ⟨_, rfl⟩
          have hFl : F < 18446744073709551616 := by rw [← hF]; exact sat_lt _
          have HW := Lib.hid (show IntIs wd m by rw [hwm]; exact IntIs.mk hm2)
          have hmb : m < 18446744073709551616 := by omega
          have HF := Lib.hid (show sat (D ^ m) = F by rw [hwm, hF])
          have HS := Lib.hid (show tsum D (ns.take i) + F = tsum D (ns.take (i + 1)) by rw [hts, ← hF]; simp [tval, hk])
          have hkb : (kd != 0) = true := by simp [hk]
          clear hmm hF hts hc hm hk hwm
          have hb0' := hb0
          go_wp2_with fail
          generalize hW : wr.alloc (.cells #[.int .i64 kd, .int .i64 p, .int .i64 q, .slice a1 n1 c1, .slice a2 n2 c2, .int .i64 r, .bool b1, .int .i64 s, .bool b2, .int .i64 t, .int .i64 wd] 70) = wb at hb0' ⊢
          have cb : wb.cell? ⟨wr.heap.size, 10, none⟩ = some (.int .i64 wd) := by rw [← hW]; simp [World.cell?_alloc_at]
          have hcb : Below wr.heap.size wr wb := hb0'
          have hszb : wr.heap.size < wb.heap.size := by rw [← hW]; simp
          have hro := reads_of_owns (ownsRow_below hown hcb)
          clear hW hb0
          go_region_held3 (fun w' => w'.cell? ⟨wr.heap.size, 10, none⟩ = some (.int .i64 wd)) (first | exact cb | exact hc1 | exact hc2 | exact hc3)
            (first
              | (go_at_call_of 47 (Value.int .i64 d); refine (plain_any d D HD.out _).mono ?_; rintro e w' ⟨rfl, rfl⟩)
              | (go_at_call_of 47 (Value.int .i64 wd); refine (plain_any wd m HW.out _).mono ?_; rintro e w' ⟨rfl, rfl⟩)
              | (go_at_call 24; refine (refPow_any D m hDb hmb _).mono ?_; rintro e w1 ⟨rfl, hb1'⟩; rw [HF.out]; have hb1 : Below wb.heap.size wb w1 := ⟨hb1'.os, hb1'.tape, hb1'.output, hb1'.size, hb1'.block⟩; clear hb1'; have hz1 := hb1.size; have hc1 := (hb1.cell (p := ⟨wr.heap.size, 10, none⟩) hszb).trans cb)
              | (go_at_call 44; refine (of_any F hFl _).mono ?_; rintro e w2 ⟨v2, l2, rfl, ho2', hb2', hd2, hv2, hl2⟩; have hb2 : Below w1.heap.size w1 w2 := ⟨hb2'.os, hb2'.tape, hb2'.output, hb2'.size, hb2'.block⟩; have ho2 : w2.ownsRow w1.heap.size 22 1 v2 l2.length (dig l2) := ho2'; clear hb2' ho2'; have hz2 := hb2.size; have HV2 := Lib.hid hv2; clear hv2; have hc2 := (hb2.cell (p := ⟨wr.heap.size, 10, none⟩) (Nat.lt_of_lt_of_le hszb hz1)).trans hc1; have hro2 : Reads w2 w2.heap.size _ o := ((hro.below hb1).mono hz1 |>.below hb2).mono hz2; have hrl2 := reads_of_owns ho2)
              | (go_at_call 43; refine (plus_any o l2 _ v2 _ hro2 hrl2 hdo hd2 (by omega) (by omega)).mono ?_; rintro e w3 ⟨v3, l3, rfl, ho3, hb3, hd3, hv3, hl3⟩; have R := sum_round' hnx hcb hb1 hb2 ho3 hb3 hvo.out HV2.out hv3 hol hl2 hl3; rw [HS.out] at R; have hc3 := (hb3.cell (p := ⟨wr.heap.size, 10, none⟩) (Nat.lt_of_lt_of_le hszb (Nat.le_trans hz1 hz2))).trans hc2; clear hv3 hl3 ho3 hb3))
          go_wp2
          go_roundw
          case rel => exact ⟨l3, i + 1, by go_num, by omega, R.1, R.2.1, hd3, R.2.2.1, R.2.2.2⟩
          case measure => simp only [intOf]; omega
      · have hr := reads_of_owns hown
        have e : i = ns.length := by omega
        have HE := Lib.hid (show val o = tsum D ns by rw [hvo.out, e, List.take_length])
        have HB := Lib.hid hnx
        clear e hnx
        go_wp2_with fail
        refine (cut_any o _ wr hr hdo (by omega)).mono ?_
        rintro e w4 ⟨rfl, rfl⟩
        go_wp2
        go_ret
        exact ⟨ret_u64 (by rw [HE.out, HV.out]), HB.out⟩

end Go.Proofs.Ytfhmcgpohpkjgaa
