/-
  The walk of the law AlphaShapes: it returns true and leaves what was in memory. Conditions: the list reads as patterns within the form's own reach.
-/
import Derived.Test.YtlandkindbmbfaaW17
namespace Go.Proofs.Ytlandkindbmbfaa
open Go.RowKit Plain
attribute [local go_sem ↓] Go.wp_at_zero Go.wp_at_succ

def PatsArg (w : World) (v : Value) (ps : List Pt) : Prop := PatsAt w w.heap.size v ps ∧ OkPats ps ∧ ps.length ≤ 4398046510976

set_option maxRecDepth 100000 in
set_option maxHeartbeats 6400000 in
theorem shapes_row (v : Value) (ps : List Pt) {w : World} (h : PatsArg w v ps) : Calls Try.prog 6 #[v] w fun e w' => e = .returned (.bool true) ∧ Below w.heap.size w w' := by
  obtain ⟨hv, hps, hn⟩ := h
  obtain ⟨a, ca, rfl, ha⟩ := hv.form
  have HV := Lib.hid hv
  have HA := Lib.hid ha
  clear hv ha
  go_enter Try.func6, Try.ntmps6
  go_wp2
  go_loopw [3] (fun k wr => ∃ i : Nat, k = .int .i64 (i : Int) ∧ i ≤ ps.length ∧ Below w.heap.size w wr) (fun k _ => ps.length - (intOf k).toNat)
  case atStart => exact ⟨0, rfl, Nat.zero_le _, Below.refl _ _⟩
  case round =>
    obtain ⟨i, rfl, hil, hnx⟩ := hrel
    have NX := Lib.hid hnx
    have hsz := hnx.size
    clear hnx
    by_cases h1 : i < ps.length
    · obtain ⟨g, off, rfl⟩ := HA.out (ne_of_lt_len h1)
      obtain ⟨x, hxi⟩ : ∃ x, ps[i]? = some x := ⟨ps[i]'h1, List.getElem?_eq_getElem h1⟩
      obtain ⟨hg, u, c0, c1, hu⟩ := PatsAt.get (HV.out.below NX.out) hxi
      have hok := hps x (List.mem_of_getElem? hxi)
      have hsok := shp_okay hok
      obtain ⟨au, cu, rfl, _⟩ := hu.form
      have HU := Lib.hid (hu.mono hsz)
      clear hu hxi
      go_wp2_with fail
      refine (refShape_any x.1 x.2 _ wr HU.out hok.2.1 hok.2.2).mono ?_
      rintro e w2 ⟨vt, rfl, hot, hb2⟩
      obtain ⟨aT, nt, ct, rfl⟩ := hot.form
      have IT := Lib.hid hot.at
      have N2 := Lib.hid (NX.out.trans (hb2.mono hsz))
      have k0 := below_cells hb2 (show g < wr.heap.size by omega) c0
      have k1 := below_cells hb2 (show g < wr.heap.size by omega) c1
      have HU2 := Lib.hid ((HU.out.below hb2).mono hb2.size)
      have h2z := N2.out.size
      have hshp : shapeB x.1 x.2 = shp x := rfl
      rw [hshp] at IT ⊢
      obtain ⟨s, hs⟩ : ∃ s, s = shp x := ⟨_, rfl⟩
      rw [← hs] at IT hsok ⊢
      have HSX := Lib.hid hs
      have m0 : (w2.alloc (.cells #[.int .i64 s.pred, .slice aT nt ct] 27)).cell? ⟨g, off + i * 2, none⟩ = some (.int .i64 x.1) := (World.cell?_alloc_past _ _ _ (show g < _ by omega)).trans k0
      have m1 : (w2.alloc (.cells #[.int .i64 s.pred, .slice aT nt ct] 27)).cell? ⟨g, off + i * 2 + 1, none⟩ = some (.slice au x.2.length cu) := (World.cell?_alloc_past _ _ _ (show g < _ by omega)).trans k1
      clear hot hb2 c0 c1 NX hs hshp k0 k1 HU
      go_wp2_with fail
      generalize hx : w2.alloc (.cells #[.int .i64 s.pred, .slice aT nt ct] 27) = w3
      have hb : Below w2.heap.size w2 w3 := by rw [← hx]; exact up_alloc _ _
      have TBx := Lib.hid (show ShBox w3 w2.heap.size s (.slice aT nt ct) by rw [← hx]; exact ShBox.made IT.out)
      have N3 := Lib.hid (N2.out.trans (hb.mono h2z))
      have HU3 := Lib.hid ((HU2.out.below hb).mono hb.size)
      clear hx hb m0 m1 IT HU2
      refine (shape_big x.1 x.2 _ w3 HU3.out hok.2.1 hok.2.2).mono ?_
      rintro e w4 ⟨vs, rfl, hos, hb4⟩
      obtain ⟨aS, ns, cs, rfl⟩ := hos.form
      have IS := Lib.hid hos.at
      have h3z := N3.out.size
      have N4 := Lib.hid (N3.out.trans (hb4.mono h3z))
      have TB4 := Lib.hid (TBx.out.below hb4)
      have hshp : shapeB x.1 x.2 = s := HSX.out.symm
      rw [hshp] at IS ⊢
      clear hos hb4 HU3 TBx hshp
      go_wp2_with fail
      generalize hx : w4.alloc (.cells #[.int .i64 s.pred, .slice aS ns cs] 27) = w5
      have hb : Below w4.heap.size w4 w5 := by rw [← hx]; exact up_alloc _ _
      have SB := Lib.hid (show ShBox w5 w4.heap.size s (.slice aS ns cs) by rw [← hx]; exact ShBox.made IS.out)
      have TB := Lib.hid (TB4.out.below hb)
      have h4z := N4.out.size
      have N5 := Lib.hid (N4.out.trans (hb.mono h4z))
      have h5z := N5.out.size
      clear hx hb IS TB4
      have s0 := SB.out.1
      have s1 := SB.out.2.1
      have t0 := TB.out.1
      have t1 := TB.out.2.1
      go_region_held3 (fun w' => w'.cell? ⟨w4.heap.size, 0, none⟩ = some (.int .i64 s.pred) ∧ w'.cell? ⟨w4.heap.size, 1, none⟩ = some (.slice aS ns cs) ∧ w'.cell? ⟨w2.heap.size, 0, none⟩ = some (.int .i64 s.pred) ∧ w'.cell? ⟨w2.heap.size, 1, none⟩ = some (.slice aT nt ct))
        (first | exact ⟨s0, s1, t0, t1⟩ | exact ⟨s2, s3, t2, t3⟩ | exact ⟨s4, s5, t4, t5⟩ | exact ⟨s6, s7, t6, t7⟩)
        (first
          | (go_at_call 27; refine (refSame_any s s _ _ _ ⟨_, rfl, by exact SB.out.2.2.1⟩ ⟨_, rfl, by exact TB.out.2.2.1⟩ hsok.1 hsok.1).mono ?_; rintro e v1 ⟨rfl, hbb⟩; have hb1 : Below w5.heap.size w5 v1 := ⟨hbb.os, hbb.tape, hbb.output, hbb.size, hbb.block⟩; clear hbb; rw [sameB_refl]; have SB1 := Lib.hid (SB.out.below hb1); have TB1 := Lib.hid (TB.out.below hb1); have s2 := SB1.out.1; have s3 := SB1.out.2.1; have t2 := TB1.out.1; have t3 := TB1.out.2.1)
          | (go_at_call 17; refine (valid_any s _ _ (by exact SB1.out.2.2.1) hsok.1.ints hsok.1.len).mono ?_; rintro e v2 ⟨rfl, hbb⟩; have hb2 : Below v1.heap.size v1 v2 := ⟨hbb.os, hbb.tape, hbb.output, hbb.size, hbb.block⟩; clear hbb; have SB2 := Lib.hid (SB1.out.below hb2); have TB2 := Lib.hid (TB1.out.below hb2); have s4 := SB2.out.1; have s5 := SB2.out.2.1; have t4 := TB2.out.1; have t5 := TB2.out.2.1)
          | (go_at_call 18; refine (refValid_any s _ _ (by exact TB2.out.2.2.1) hsok.1.ints hsok.1.len).mono ?_; rintro e v3 ⟨rfl, hbb⟩; have hb3 : Below v2.heap.size v2 v3 := ⟨hbb.os, hbb.tape, hbb.output, hbb.size, hbb.block⟩; clear hbb; have SB3 := Lib.hid (SB2.out.below hb3); have TB3 := Lib.hid (TB2.out.below hb3); have s6 := SB3.out.1; have s7 := SB3.out.2.1; have t6 := TB3.out.1; have t7 := TB3.out.2.1; have bx : (validB s != validB s) = false := by simp))
      have g1 := hb1.trans (hb2.mono hb1.size)
      have g2 := g1.trans (hb3.mono g1.size)
      have N6 := Lib.hid (N5.out.trans (g2.mono h5z))
      clear s0 s1 t0 t1 s2 s3 t2 t3 s4 s5 t4 t5 s6 s7 t6 t7 SB TB SB1 TB1 SB2 TB2 SB3 TB3 hb1 hb2 hb3 g1 g2
      go_wp2
      go_roundw
      case rel => exact ⟨i + 1, by go_num, by omega, N6.out⟩
      case measure => simp only [intOf]; omega
    · have hv3 := Lib.hid ((HV.out.below NX.out).mono hsz)
      go_wp2_with fail
      refine (refDistinct_any ps _ wr hv3.out hps hn).mono ?_
      rintro e w2 ⟨vm, rfl, hom, hb2⟩
      have HV2 := Lib.hid ((hv3.out.below hb2).mono hb2.size)
      have N2 := Lib.hid (NX.out.trans (hb2.mono hsz))
      have OM := Lib.hid hom
      clear hom hb2
      obtain ⟨aM, cM, rfl, haM⟩ := OM.out.at.form
      go_wp2_with fail
      refine (distinct_any ps _ w2 HV2.out hps hn).mono ?_
      rintro e w3 ⟨vl, rfl, hol, hb3⟩
      have N3 := Lib.hid (N2.out.trans (hb3.mono N2.out.size))
      have OM3 := Lib.hid ((OM.out.up hb3).at)
      have OL3 := Lib.hid hol.at
      clear hol hb3 OM
      obtain ⟨aL, cL, rfl, haL⟩ := OL3.out.form
      have HM := Lib.hid haM
      have HL := Lib.hid haL
      have hdo : Okays (distB ps) := by have := dist_okays hps ps.length; rw [List.take_length] at this; exact this
      have hdl : (distB ps).length ≤ 4398046510976 := Nat.le_trans (distB_len ps) hn
      obtain ⟨D, hD⟩ : ∃ D, D = distB ps := ⟨_, rfl⟩
      rw [← hD] at OM3 OL3 HM HL hdo hdl ⊢
      have hne : ((D.length : Int) != (D.length : Int)) = false := by simp
      have h3z := N3.out.size
      clear haM haL hD
      go_wp2
      clear hne
      go_loopw [8] (fun k wr => ∃ i : Nat, k = .int .i64 (i : Int) ∧ i ≤ D.length ∧ Below w3.heap.size w3 wr) (fun k _ => D.length - (intOf k).toNat)
      case atStart => exact ⟨0, rfl, Nat.zero_le _, Below.refl _ _⟩
      case round =>
        obtain ⟨j, rfl, hjl, hnx⟩ := hrel
        have hsz2 := hnx.size
        have NX2 := Lib.hid hnx
        clear hnx
        by_cases h2 : j < D.length
        · obtain ⟨g, off, rfl⟩ := HL.out (ne_of_lt_len h2)
          obtain ⟨g2, off2, rfl⟩ := HM.out (ne_of_lt_len h2)
          obtain ⟨s, hsj⟩ : ∃ s, D[j]? = some s := ⟨D[j]'h2, List.getElem?_eq_getElem h2⟩
          obtain ⟨hg, x, c0, c1, hx, _⟩ := ShpsAt.get (OL3.out.below NX2.out) hsj
          obtain ⟨hg2, y, d0, d1, hy, _⟩ := ShpsAt.get (OM3.out.below NX2.out) hsj
          have hok := hdo s (List.mem_of_getElem? hsj)
          have HX := Lib.hid (hx.mono hsz2)
          have HY := Lib.hid (hy.mono hsz2)
          obtain ⟨ax, cx, rfl, _⟩ := HX.out
          obtain ⟨ay, cy, rfl, _⟩ := HY.out
          clear hx hy hsj
          go_wp2_with fail
          go_still_tail 8, (by kernel_rfl)
          change wpList _ _ _ _ _ wr.drew
          generalize hW : wr.drew = v2
          have NX3 := Lib.hid (show Below w3.heap.size w3 v2 by rw [← hW]; exact Below.drew NX2.out)
          have HX2 := Lib.hid (show IntsAt v2 v2.heap.size _ s.cells by rw [← hW]; exact HX.out.heap rfl)
          have HY2 := Lib.hid (show IntsAt v2 v2.heap.size _ s.cells by rw [← hW]; exact HY.out.heap rfl)
          clear hW c0 c1 d0 d1 HX HY NX2
          go_wp2_with fail
          refine (refSame_any s s _ _ v2 ⟨_, rfl, HX2.out⟩ ⟨_, rfl, HY2.out⟩ hok.1 hok.1).mono ?_
          rintro e v3 ⟨rfl, hb3⟩
          rw [sameB_refl]
          have NX4 := Lib.hid (NX3.out.trans (hb3.mono NX3.out.size))
          clear hb3
          go_wp2
          go_roundw
          case rel => exact ⟨j + 1, by go_num, by omega, NX4.out⟩
          case measure => simp only [intOf]; omega
        · have e : j = D.length := by omega
          clear e
          go_wp2
          go_ret
          exact ⟨rfl, N3.out.trans (NX2.out.mono h3z)⟩

end Go.Proofs.Ytlandkindbmbfaa
