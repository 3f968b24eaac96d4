/-
  The walk of the law AlphaFits: it returns true and leaves what was in memory. Conditions: the lists read as shapes and rows within the form's own reach.
-/
import Derived.Test.YtlandkindbmbfaaW8
import Derived.Test.YtlandkindbmbfaaO2
namespace Go.Proofs.Ytlandkindbmbfaa
open Go.RowKit Plain
attribute [local go_sem ↓] Go.wp_at_zero Go.wp_at_succ

set_option maxRecDepth 100000 in
set_option maxHeartbeats 6400000 in
theorem fits_row (v : Value) (ss : List Shp) {w : World} (hv : ShpsArg w v ss) (u : Value) (rs : List Shp) (hu : ShpsArg w u rs) :
    Calls Try.prog 4 #[v, u] w fun e w' => e = .returned (.bool true) ∧ Below w.heap.size w w' := by
  obtain ⟨i3, qi, q0, q1, q2⟩ := info_parts Try.info3
  obtain ⟨hv, hs, hn⟩ := hv
  obtain ⟨hu, hrs, hrn⟩ := hu
  obtain ⟨a, ca, rfl, ha⟩ := hv.form
  obtain ⟨b, cr, rfl, hb⟩ := hu.form
  have HV := Lib.hid hv
  have HR := Lib.hid hu
  have HA := Lib.hid ha
  have HRB := Lib.hid hb
  have HSO := Lib.hid (shapesOf_any ss _ w hv hs hn)
  clear hv ha hu hb
  go_enter Try.func4, Try.ntmps4
  go_wp2_with fail
  refine HSO.out.mono ?_
  rintro e w1 ⟨v1, rfl, hown, hb1⟩
  obtain ⟨bb, cb, rfl, hb⟩ := hown.at.form
  have HB := Lib.hid hb
  have HU := Lib.hid hown.at
  have HV1 := Lib.hid ((HV.out.below hb1).mono hb1.size)
  have HR1 := Lib.hid ((HR.out.below hb1).mono hb1.size)
  have HB1 := Lib.hid hb1
  clear hown hb1 hb HSO
  go_wp2
  go_loopw [6] (fun k wr => ∃ i : Nat, k = .int .i64 (i : Int) ∧ i ≤ ss.length ∧ Below w1.heap.size w1 wr) (fun k _ => ss.length - (intOf k).toNat)
  case atStart => exact ⟨0, rfl, Nat.zero_le _, Below.refl _ _⟩
  case round =>
    obtain ⟨i, rfl, hil, hnx⟩ := hrel
    have NX := Lib.hid hnx
    clear hnx
    by_cases h1 : i < ss.length
    · obtain ⟨s, hsi⟩ : ∃ s, ss[i]? = some s := ⟨ss[i]'h1, List.getElem?_eq_getElem h1⟩
      obtain ⟨g, off, rfl⟩ := HA.out (ne_of_lt_len h1)
      obtain ⟨g2, off2, rfl⟩ := HB.out (ne_of_lt_len h1)
      have i0 : (0 : Int) ≤ (i : Int) := Int.natCast_nonneg _
      have i1 : (i : Int) < (ss.length : Int) := by omega
      obtain ⟨hg, x, c0, c1, hx, _⟩ := ShpsAt.get (HV1.out.below NX.out) hsi
      obtain ⟨hg2, y, d0, d1, hy, hyn⟩ := ShpsAt.get (HU.out.below NX.out) hsi
      have hoks := hs s (List.mem_of_getElem? hsi)
      have HSI := Lib.hid hsi
      have hsz := NX.out.size
      have HX := Lib.hid (hx.mono hsz)
      have HY := Lib.hid (hy.mono hsz)
      obtain ⟨ax, cx, rfl, _⟩ := hx
      obtain ⟨ay, cy, rfl, _⟩ := hy
      clear hsi hyn
      go_wp2_with fail
      go_region_held3 (fun w' => w'.cell? ⟨g, off + i * 2, none⟩ = some (.int .i64 s.pred) ∧ w'.cell? ⟨g, off + i * 2 + 1, none⟩ = some (.slice ax s.cells.length cx) ∧
          w'.cell? ⟨g2, off2 + i * 2, none⟩ = some (.int .i64 s.pred) ∧ w'.cell? ⟨g2, off2 + i * 2 + 1, none⟩ = some (.slice ay s.cells.length cy))
        (first | exact ⟨c0, c1, d0, d1⟩ | exact ⟨k0, k1, l0, l1⟩ | exact ⟨m0, m1, n0, n1⟩)
        (first
          | (go_at_call 17; refine (valid_any s _ _ (by exact HY.out) hoks.1.ints hoks.1.len).mono ?_; rintro e w2 ⟨rfl, hb2'⟩; have hb2 : Below wr.heap.size wr w2 := ⟨hb2'.os, hb2'.tape, hb2'.output, hb2'.size, hb2'.block⟩; clear hb2'; have k0 := below_cells hb2 (show g < _ by omega) c0; have k1 := below_cells hb2 (show g < _ by omega) c1; have l0 := below_cells hb2 (show g2 < _ by omega) d0; have l1 := below_cells hb2 (show g2 < _ by omega) d1; have HZ := Lib.hid ((HX.out.below hb2).mono hb2.size))
          | (go_at_call 18; refine (refValid_any s _ _ (by exact HZ.out) hoks.1.ints hoks.1.len).mono ?_; rintro e w3 ⟨rfl, hb3'⟩; have hb3 : Below w2.heap.size w2 w3 := ⟨hb3'.os, hb3'.tape, hb3'.output, hb3'.size, hb3'.block⟩; clear hb3'; have hz2 := hb2.size; have m0 := below_cells hb3 (show g < _ by omega) k0; have m1 := below_cells hb3 (show g < _ by omega) k1; have n0 := below_cells hb3 (show g2 < _ by omega) l0; have n1 := below_cells hb3 (show g2 < _ by omega) l1; have hbn : (validB s != validB s) = false := by simp))
      have NX3 := Lib.hid (NX.out.trans ((hb2.mono hsz).trans (hb3.mono (by omega))))
      clear hbn m0 m1 n0 n1 k0 k1 l0 l1 c0 c1 d0 d1 hb2 hb3 HX HY HZ NX hz2 hsz
      go_wp2
      go_loopw [7] (fun k wr => ∃ j : Nat, k = .int .i64 (j : Int) ∧ j ≤ rs.length ∧ Below w1.heap.size w1 wr) (fun k _ => rs.length - (intOf k).toNat)
      case atStart => exact ⟨0, rfl, Nat.zero_le _, NX3.out⟩
      case round =>
        clear NX3
        obtain ⟨j, rfl, hjl, hnx⟩ := hrel
        have NX := Lib.hid hnx
        clear hnx
        by_cases h2 : j < rs.length
        · obtain ⟨r, hrj⟩ : ∃ r, rs[j]? = some r := ⟨rs[j]'h2, List.getElem?_eq_getElem h2⟩
          obtain ⟨gr, offr, rfl⟩ := HRB.out (ne_of_lt_len h2)
          have j0 : (0 : Int) ≤ (j : Int) := Int.natCast_nonneg _
          have j1 : (j : Int) < (rs.length : Int) := by omega
          obtain ⟨_, x, c0, c1, hx, _⟩ := ShpsAt.get (HV1.out.below NX.out) HSI.out
          obtain ⟨_, y, d0, d1, hy, hyn⟩ := ShpsAt.get (HU.out.below NX.out) HSI.out
          obtain ⟨hgr, z, e0, e1, hz, hzn⟩ := ShpsAt.get (HR1.out.below NX.out) hrj
          have hokr := hrs r (List.mem_of_getElem? hrj)
          have hrl := hokr.2
          have hsz := NX.out.size
          have HYN := Lib.hid hyn
          clear hrj hokr hyn
          obtain ⟨az, cz, hze, _⟩ := id hz
          subst hze
          have HZ := Lib.hid (hz.mono hsz)
          have HZN := Lib.hid hzn
          clear hzn
          rcases az with _ | ad
          · obtain ⟨f1, f2⟩ := HZN.out _ _ rfl
            have h0 : r.cells = [] := List.length_eq_zero_iff.1 f1
            have H0 := Lib.hid h0
            have HF := Lib.hid f1
            subst f2
            rw [f1] at e1 hz
            clear h0 f1
            have e1a : (wr.alloc (.cells #[] 3)).cell? ⟨gr, offr + j * 2 + 1, none⟩ = some (.slice none 0 0) := (World.cell?_alloc_past _ _ _ (show gr < _ by omega)).trans e1
            go_wp2_with (at_builtin; refine wpList_append_own_none rfl _ _ 25 rfl w1.heap.size 3 i3 1 Try.underlying25 qi (.slice (some ⟨wr.heap.size, 0, none⟩) 0 0) 0 [] rfl (World.ownsRow_made wr #[] 0 hsz (by decide) rfl) rfl ?_)
            generalize hwq : wr.alloc (.cells #[] 3) = wq
            have hown1 : OwnInts wq w1.heap.size (.slice (some ⟨wr.heap.size, 0, none⟩) 0 0) r.cells := by rw [H0.out, ← hwq]; exact World.ownsRow_made wr #[] 0 hsz (by decide) rfl
            have NQ := Lib.hid (show Below w1.heap.size w1 wq by rw [← hwq]; exact NX.out.alloc hsz _)
            have hbq : Below wr.heap.size wr wq := by rw [← hwq]; exact (Below.refl _ _).alloc (Nat.le_refl _) _
            clear hwq e1a
            have hszq := NQ.out.size
            have XQ := Lib.hid (((hx.mono hsz).below hbq).mono hbq.size)
            have YQ := Lib.hid (((hy.mono hsz).below hbq).mono hbq.size)
            have RQ := Lib.hid (((hz.mono hsz).below hbq).mono hbq.size)
            have AQ := Lib.hid hown1.at
            have k0 := below_cells hbq (show g < _ by omega) c0
            have k1 := below_cells hbq (show g < _ by omega) c1
            have k2 := below_cells hbq (show g2 < _ by omega) d0
            have k3 := below_cells hbq (show g2 < _ by omega) d1
            have k4 := below_cells hbq (show gr < _ by omega) e0
            have k5 := below_cells hbq (show gr < _ by omega) e1
            obtain ⟨ax, cx, hxe, _⟩ := id XQ.out
            obtain ⟨ay, cy, hye, _⟩ := id YQ.out
            subst hxe hye
            clear hbq hx hy hz c0 c1 d0 d1 e0 e1 hown1
            go_wp2_with fail
            go_region_held3 (fun w' => w'.cell? ⟨g, off + i * 2, none⟩ = some (.int .i64 s.pred) ∧ w'.cell? ⟨g, off + i * 2 + 1, none⟩ = some (.slice ax s.cells.length cx) ∧
                w'.cell? ⟨g2, off2 + i * 2, none⟩ = some (.int .i64 s.pred) ∧ w'.cell? ⟨g2, off2 + i * 2 + 1, none⟩ = some (.slice ay s.cells.length cy) ∧
                w'.cell? ⟨gr, offr + j * 2, none⟩ = some (.int .i64 r.pred) ∧ w'.cell? ⟨gr, offr + j * 2 + 1, none⟩ = some (.slice none 0 0))
              (first | exact ⟨k0, k1, k2, k3, k4, k5⟩ | exact ⟨l0, l1, l2, l3, l4, l5⟩ | exact ⟨m0, m1, m2, m3, m4, m5⟩ | exact ⟨n0, n1, n2, n3, n4, n5⟩)
              (first
                | (go_at_call 19; refine (fits_any s _ r.pred r.cells _ _ (by exact YQ.out) HYN.out hoks.1 hoks.2 (by exact AQ.out) (by omega)).mono ?_; rintro e w3 ⟨rfl, hb3'⟩; have hb3 : Below wq.heap.size wq w3 := ⟨hb3'.os, hb3'.tape, hb3'.output, hb3'.size, hb3'.block⟩; clear hb3'; have l0 := below_cells hb3 (show g < _ by omega) k0; have l1 := below_cells hb3 (show g < _ by omega) k1; have l2 := below_cells hb3 (show g2 < _ by omega) k2; have l3 := below_cells hb3 (show g2 < _ by omega) k3; have l4 := below_cells hb3 (show gr < _ by omega) k4; have l5 := below_cells hb3 (show gr < _ by omega) k5; have hz3 := hb3.size; have XQ3 := Lib.hid ((XQ.out.below hb3).mono hz3); have RQ3 := Lib.hid ((RQ.out.below hb3).mono hz3); have AQ3 := Lib.hid ((AQ.out.below hb3).mono hz3))
                | (go_at_call 20; refine (refFits_any s _ r.pred r.cells _ _ ⟨_, rfl, by exact XQ3.out⟩ hoks.1 (by exact RQ3.out) (by omega)).mono ?_; rintro e w4 ⟨rfl, hb4'⟩; have hb4 : Below w3.heap.size w3 w4 := ⟨hb4'.os, hb4'.tape, hb4'.output, hb4'.size, hb4'.block⟩; clear hb4'; have m0 := below_cells hb4 (show g < _ by omega) l0; have m1 := below_cells hb4 (show g < _ by omega) l1; have m2 := below_cells hb4 (show g2 < _ by omega) l2; have m3 := below_cells hb4 (show g2 < _ by omega) l3; have m4 := below_cells hb4 (show gr < _ by omega) l4; have m5 := below_cells hb4 (show gr < _ by omega) l5; have hz4 := hb4.size; have RQ4 := Lib.hid ((RQ3.out.below hb4).mono hz4); have AQ4 := Lib.hid ((AQ3.out.below hb4).mono hz4); have hbn : (fitsB s r.pred r.cells != fitsB s r.pred r.cells) = false := by simp)
                | (go_at_call 21; refine (ints_any r.cells r.cells _ _ _ (by exact AQ4.out) (by exact RQ4.out) (by omega) (by omega)).mono ?_; rintro e w5 ⟨rfl, hb5'⟩; have hb5 : Below w4.heap.size w4 w5 := ⟨hb5'.os, hb5'.tape, hb5'.output, hb5'.size, hb5'.block⟩; clear hb5'; have n0 := below_cells hb5 (show g < _ by omega) m0; have n1 := below_cells hb5 (show g < _ by omega) m1; have n2 := below_cells hb5 (show g2 < _ by omega) m2; have n3 := below_cells hb5 (show g2 < _ by omega) m3; have n4 := below_cells hb5 (show gr < _ by omega) m4; have n5 := below_cells hb5 (show gr < _ by omega) m5; have hbd : decide (r.cells = r.cells) = true := by simp))
            have NX5 := Lib.hid (NQ.out.trans ((hb3.mono hszq).trans ((hb4.mono (by omega)).trans (hb5.mono (by omega)))))
            go_wp2
            go_roundw
            case rel => exact ⟨j + 1, by go_num, by omega, NX5.out⟩
            case measure => simp only [intOf]; omega
          · have e1a : (wr.alloc (.cells #[] 3)).cell? ⟨gr, offr + j * 2 + 1, none⟩ = some (.slice (some ad) r.cells.length cz) := (World.cell?_alloc_past _ _ _ (show gr < _ by omega)).trans e1
            have HNW := Lib.hid ((HZ.out.alloc (Nat.le_refl _) (.cells #[] 3)).news)
            go_wp2_with (at_builtin; refine wpList_append_own _ rfl _ _ 25 rfl w1.heap.size 3 i3 (.int .i64 0) 1 8 Try.underlying25 qi q0 q1 q2 rfl (by decide) (.slice (some ⟨wr.heap.size, 0, none⟩) 0 0) 0 [] rfl (World.ownsRow_made wr #[] 0 hsz (by decide) rfl) ad r.cells.length cz (lits r.cells) rfl (by rw [lits_length, Nat.mul_one]) HNW.out (lits_one _) (by unfold maxLen; omega) (by omega) (by simp; omega) ?_; intro av wq hown' hgrow hnl)
            have hown1 : OwnInts wq w1.heap.size av r.cells := by unfold OwnInts; simpa only [Nat.zero_add, List.nil_append] using hown'
            have hbq : Below wr.heap.size wr wq := ((Below.refl _ _).alloc (Nat.le_refl _) _).grown hgrow (by simp) (fun k hk => by simp [Value.ownBlock] at hk; omega)
            have NQ := Lib.hid (NX.out.trans (hbq.mono hsz))
            clear hown' hgrow hnl e1a
            have hszq := NQ.out.size
            have XQ := Lib.hid (((hx.mono hsz).below hbq).mono hbq.size)
            have YQ := Lib.hid (((hy.mono hsz).below hbq).mono hbq.size)
            have RQ := Lib.hid (((hz.mono hsz).below hbq).mono hbq.size)
            have AQ := Lib.hid hown1.at
            have k0 := below_cells hbq (show g < _ by omega) c0
            have k1 := below_cells hbq (show g < _ by omega) c1
            have k2 := below_cells hbq (show g2 < _ by omega) d0
            have k3 := below_cells hbq (show g2 < _ by omega) d1
            have k4 := below_cells hbq (show gr < _ by omega) e0
            have k5 := below_cells hbq (show gr < _ by omega) e1
            obtain ⟨ax, cx, hxe, _⟩ := id XQ.out
            obtain ⟨ay, cy, hye, _⟩ := id YQ.out
            subst hxe hye
            obtain ⟨nq, cq, haq, _⟩ := id AQ.out
            subst haq
            clear hbq hx hy hz c0 c1 d0 d1 e0 e1 hown1
            go_wp2_with fail
            go_region_held3 (fun w' => w'.cell? ⟨g, off + i * 2, none⟩ = some (.int .i64 s.pred) ∧ w'.cell? ⟨g, off + i * 2 + 1, none⟩ = some (.slice ax s.cells.length cx) ∧
                w'.cell? ⟨g2, off2 + i * 2, none⟩ = some (.int .i64 s.pred) ∧ w'.cell? ⟨g2, off2 + i * 2 + 1, none⟩ = some (.slice ay s.cells.length cy) ∧
                w'.cell? ⟨gr, offr + j * 2, none⟩ = some (.int .i64 r.pred) ∧ w'.cell? ⟨gr, offr + j * 2 + 1, none⟩ = some (.slice (some ad) r.cells.length cz))
              (first | exact ⟨k0, k1, k2, k3, k4, k5⟩ | exact ⟨l0, l1, l2, l3, l4, l5⟩ | exact ⟨m0, m1, m2, m3, m4, m5⟩ | exact ⟨n0, n1, n2, n3, n4, n5⟩)
              (first
                | (go_at_call 19; refine (fits_any s _ r.pred r.cells _ _ (by exact YQ.out) HYN.out hoks.1 hoks.2 (by exact AQ.out) (by omega)).mono ?_; rintro e w3 ⟨rfl, hb3'⟩; have hb3 : Below wq.heap.size wq w3 := ⟨hb3'.os, hb3'.tape, hb3'.output, hb3'.size, hb3'.block⟩; clear hb3'; have l0 := below_cells hb3 (show g < _ by omega) k0; have l1 := below_cells hb3 (show g < _ by omega) k1; have l2 := below_cells hb3 (show g2 < _ by omega) k2; have l3 := below_cells hb3 (show g2 < _ by omega) k3; have l4 := below_cells hb3 (show gr < _ by omega) k4; have l5 := below_cells hb3 (show gr < _ by omega) k5; have hz3 := hb3.size; have XQ3 := Lib.hid ((XQ.out.below hb3).mono hz3); have RQ3 := Lib.hid ((RQ.out.below hb3).mono hz3); have AQ3 := Lib.hid ((AQ.out.below hb3).mono hz3))
                | (go_at_call 20; refine (refFits_any s _ r.pred r.cells _ _ ⟨_, rfl, by exact XQ3.out⟩ hoks.1 (by exact RQ3.out) (by omega)).mono ?_; rintro e w4 ⟨rfl, hb4'⟩; have hb4 : Below w3.heap.size w3 w4 := ⟨hb4'.os, hb4'.tape, hb4'.output, hb4'.size, hb4'.block⟩; clear hb4'; have m0 := below_cells hb4 (show g < _ by omega) l0; have m1 := below_cells hb4 (show g < _ by omega) l1; have m2 := below_cells hb4 (show g2 < _ by omega) l2; have m3 := below_cells hb4 (show g2 < _ by omega) l3; have m4 := below_cells hb4 (show gr < _ by omega) l4; have m5 := below_cells hb4 (show gr < _ by omega) l5; have hz4 := hb4.size; have RQ4 := Lib.hid ((RQ3.out.below hb4).mono hz4); have AQ4 := Lib.hid ((AQ3.out.below hb4).mono hz4); have hbn : (fitsB s r.pred r.cells != fitsB s r.pred r.cells) = false := by simp)
                | (go_at_call 21; refine (ints_any r.cells r.cells _ _ _ (by exact AQ4.out) (by exact RQ4.out) (by omega) (by omega)).mono ?_; rintro e w5 ⟨rfl, hb5'⟩; have hb5 : Below w4.heap.size w4 w5 := ⟨hb5'.os, hb5'.tape, hb5'.output, hb5'.size, hb5'.block⟩; clear hb5'; have n0 := below_cells hb5 (show g < _ by omega) m0; have n1 := below_cells hb5 (show g < _ by omega) m1; have n2 := below_cells hb5 (show g2 < _ by omega) m2; have n3 := below_cells hb5 (show g2 < _ by omega) m3; have n4 := below_cells hb5 (show gr < _ by omega) m4; have n5 := below_cells hb5 (show gr < _ by omega) m5; have hbd : decide (r.cells = r.cells) = true := by simp))
            have NX5 := Lib.hid (NQ.out.trans ((hb3.mono hszq).trans ((hb4.mono (by omega)).trans (hb5.mono (by omega)))))
            go_wp2
            go_roundw
            case rel => exact ⟨j + 1, by go_num, by omega, NX5.out⟩
            case measure => simp only [intOf]; omega
        · have e : j = rs.length := by omega
          clear e
          go_wp2
          go_roundw
          case rel => exact ⟨i + 1, by go_num, by omega, NX.out⟩
          case measure => simp only [intOf]; omega
    · have HV3 := Lib.hid ((HV1.out.below NX.out).mono NX.out.size)
      have HU3 := Lib.hid ((HU.out.below NX.out).mono NX.out.size)
      go_wp2_with fail
      refine (shapes_same ss _ _ wr HU3.out HV3.out hs hn).mono ?_
      rintro e w4 ⟨rfl, hb4⟩
      go_wp2
      go_ret
      exact ⟨rfl, HB1.out.trans ((NX.out.mono HB1.out.size).trans (hb4.mono (Nat.le_trans HB1.out.size NX.out.size)))⟩

end Go.Proofs.Ytlandkindbmbfaa
