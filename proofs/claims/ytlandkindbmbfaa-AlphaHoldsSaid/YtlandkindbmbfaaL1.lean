/-
  The walk of the law AlphaCovers: it returns true and leaves what was in memory. Conditions: the list reads as shapes within the form's own reach.
-/
import Derived.Test.YtlandkindbmbfaaW7
namespace Go.Proofs.Ytlandkindbmbfaa
open Go.RowKit Plain
attribute [local go_sem ↓] Go.wp_at_zero Go.wp_at_succ

theorem BoolIs.same (w : World) {b : Bool} {e : Ending} {w' : World} (h : BoolIs w b e w') : e = .returned (.bool b) ∧ Below w.heap.size w w' := h

set_option maxRecDepth 100000 in
set_option maxHeartbeats 3200000 in
theorem covers_walk (v : Value) (w : World) (hv : ∃ ss, ShpsAt w w.heap.size v ss ∧ Okays ss ∧ ss.length ≤ 4398046510976) :
    Calls Try.prog 3 #[v] w (BoolIs w true) := by
  obtain ⟨ss, hv, hs, hn⟩ := hv
  obtain ⟨a, ca, rfl, ha⟩ := hv.form
  have HV := Lib.hid hv
  have HA := Lib.hid ha
  have HSO := Lib.hid (shapesOf_any ss _ w hv hs hn)
  clear hv ha
  go_enter Try.func3, Try.ntmps3
  go_wp2_with fail
  refine HSO.out.mono ?_
  rintro e w1 ⟨v1, rfl, hown, hb1⟩
  obtain ⟨b, cb, rfl, hb⟩ := hown.at.form
  have HB := Lib.hid hb
  have HU := Lib.hid hown.at
  have HV1 := Lib.hid ((HV.out.below hb1).mono hb1.size)
  have HB1 := Lib.hid hb1
  clear hown hb1 hb HSO
  go_wp2
  go_loopw [4] (fun k wr => ∃ i : Nat, k = .int .i64 (i : Int) ∧ i ≤ ss.length ∧ Below w1.heap.size w1 wr) (fun k _ => ss.length - (intOf k).toNat)
  case atStart => exact ⟨0, rfl, Nat.zero_le _, Below.refl _ _⟩
  case round =>
    obtain ⟨i, rfl, hil, hnx⟩ := hrel
    have NX := Lib.hid hnx
    clear hnx
    by_cases h1 : i < ss.length
    · obtain ⟨s, hsi⟩ : ∃ s, ss[i]? = some s := ⟨ss[i]'h1, List.getElem?_eq_getElem h1⟩
      obtain ⟨g, off, rfl⟩ := HA.out (ne_of_lt_len h1)
      obtain ⟨g2, off2, rfl⟩ := HB.out (ne_of_lt_len h1)
      go_wp2
      go_loopw [5] (fun k wr => ∃ j : Nat, k = .int .i64 (j : Int) ∧ j ≤ ss.length ∧ Below w1.heap.size w1 wr) (fun k _ => ss.length - (intOf k).toNat)
      case atStart => exact ⟨0, rfl, Nat.zero_le _, NX.out⟩
      case round =>
        clear NX
        obtain ⟨j, rfl, hjl, hnx⟩ := hrel
        have NX := Lib.hid hnx
        clear hnx
        by_cases h2 : j < ss.length
        · obtain ⟨t, htj⟩ : ∃ t, ss[j]? = some t := ⟨ss[j]'h2, List.getElem?_eq_getElem h2⟩
          have i0 : (0 : Int) ≤ (i : Int) := Int.natCast_nonneg _
          have j0 : (0 : Int) ≤ (j : Int) := Int.natCast_nonneg _
          have i1 : (i : Int) < (ss.length : Int) := by omega
          have j1 : (j : Int) < (ss.length : Int) := by omega
          obtain ⟨hg, x, c0, c1, hx, _⟩ := ShpsAt.get (HV1.out.below NX.out) hsi
          obtain ⟨_, x', c2, c3, hx', _⟩ := ShpsAt.get (HV1.out.below NX.out) htj
          obtain ⟨hg2, y, d0, d1, hy, _⟩ := ShpsAt.get (HU.out.below NX.out) hsi
          obtain ⟨_, y', d2, d3, hy', _⟩ := ShpsAt.get (HU.out.below NX.out) htj
          have hoks := hs s (List.mem_of_getElem? hsi)
          have hokt := hs t (List.mem_of_getElem? htj)
          have hsz := NX.out.size
          have HX := Lib.hid (hx.mono hsz)
          have HX' := Lib.hid (hx'.mono hsz)
          have HY := Lib.hid (hy.mono hsz)
          have HY' := Lib.hid (hy'.mono hsz)
          obtain ⟨ax, cx, rfl, _⟩ := hx
          obtain ⟨ax', cx', rfl, _⟩ := hx'
          obtain ⟨ay, cy, rfl, _⟩ := hy
          obtain ⟨ay', cy', rfl, _⟩ := hy'
          clear hsi htj
          go_wp2_with fail
          go_region_held3 (fun w' => w'.cell? ⟨g, off + i * 2, none⟩ = some (.int .i64 s.pred) ∧ w'.cell? ⟨g, off + i * 2 + 1, none⟩ = some (.slice ax s.cells.length cx) ∧
              w'.cell? ⟨g, off + j * 2, none⟩ = some (.int .i64 t.pred) ∧ w'.cell? ⟨g, off + j * 2 + 1, none⟩ = some (.slice ax' t.cells.length cx') ∧
              w'.cell? ⟨g2, off2 + i * 2, none⟩ = some (.int .i64 s.pred) ∧ w'.cell? ⟨g2, off2 + i * 2 + 1, none⟩ = some (.slice ay s.cells.length cy) ∧
              w'.cell? ⟨g2, off2 + j * 2, none⟩ = some (.int .i64 t.pred) ∧ w'.cell? ⟨g2, off2 + j * 2 + 1, none⟩ = some (.slice ay' t.cells.length cy'))
            (first | exact ⟨c0, c1, c2, c3, d0, d1, d2, d3⟩ | exact ⟨k0, k1, k2, k3, l0, l1, l2, l3⟩ | exact ⟨m0, m1, m2, m3, n0, n1, n2, n3⟩)
            (first
              | (go_at_call 14; refine (covers_any s t _ _ _ ⟨_, rfl, by exact HY.out⟩ ⟨_, rfl, by exact HY'.out⟩ hoks.1 hokt.1).mono ?_; rintro e w2 ⟨rfl, hb2'⟩; have hb2 : Below wr.heap.size wr w2 := ⟨hb2'.os, hb2'.tape, hb2'.output, hb2'.size, hb2'.block⟩; clear hb2'; have k0 := below_cells hb2 (show g < _ by omega) c0; have k1 := below_cells hb2 (show g < _ by omega) c1; have k2 := below_cells hb2 (show g < _ by omega) c2; have k3 := below_cells hb2 (show g < _ by omega) c3; have l0 := below_cells hb2 (show g2 < _ by omega) d0; have l1 := below_cells hb2 (show g2 < _ by omega) d1; have l2 := below_cells hb2 (show g2 < _ by omega) d2; have l3 := below_cells hb2 (show g2 < _ by omega) d3; have HZ := Lib.hid ((HX.out.below hb2).mono hb2.size); have HZ' := Lib.hid ((HX'.out.below hb2).mono hb2.size))
              | (go_at_call 15; refine (refCovers_any s t _ _ _ ⟨_, rfl, by exact HZ.out⟩ ⟨_, rfl, by exact HZ'.out⟩ hoks.1 hokt.1 hokt.2).mono ?_; rintro e w3 ⟨rfl, hb3'⟩; have hb3 : Below w2.heap.size w2 w3 := ⟨hb3'.os, hb3'.tape, hb3'.output, hb3'.size, hb3'.block⟩; clear hb3'; have hz2 := hb2.size; have m0 := below_cells hb3 (show g < _ by omega) k0; have m1 := below_cells hb3 (show g < _ by omega) k1; have m2 := below_cells hb3 (show g < _ by omega) k2; have m3 := below_cells hb3 (show g < _ by omega) k3; have n0 := below_cells hb3 (show g2 < _ by omega) l0; have n1 := below_cells hb3 (show g2 < _ by omega) l1; have n2 := below_cells hb3 (show g2 < _ by omega) l2; have n3 := below_cells hb3 (show g2 < _ by omega) l3; have hbn : (coversB s t != coversB s t) = false := by simp))
          have NX3 := Lib.hid (NX.out.trans ((hb2.mono hsz).trans (hb3.mono (by omega))))
          go_wp2
          go_roundw
          case rel => exact ⟨j + 1, by go_num, by omega, NX3.out⟩
          case measure => simp only [intOf]; omega
        · have e : j = ss.length := by omega
          clear e
          go_wp2
          go_roundw
          case rel => exact ⟨i + 1, by go_num, by omega, NX.out⟩
          case measure => simp only [intOf]; omega
    · have HV3 := Lib.hid ((HV1.out.below NX.out).mono NX.out.size)
      have HU3 := Lib.hid ((HU.out.below NX.out).mono NX.out.size)
      go_wp2_with fail
      refine (shapes_same ss _ _ wr HU3.out HV3.out hs hn).mono ?_
      rintro e w4 ⟨rfl, hb4⟩
      go_wp2
      go_ret
      exact ⟨rfl, HB1.out.trans ((NX.out.mono HB1.out.size).trans (hb4.mono (Nat.le_trans HB1.out.size NX.out.size)))⟩

end Go.Proofs.Ytlandkindbmbfaa
