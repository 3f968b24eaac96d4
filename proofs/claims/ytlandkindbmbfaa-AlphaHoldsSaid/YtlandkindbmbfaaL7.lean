/-
  The walk of the law AlphaHolds: it returns true and leaves what was in memory. Conditions: the arguments are within the form's own reach.
-/
import Derived.Test.YtlandkindbmbfaaK15
import Derived.Test.YtlandkindbmbfaaO2
import Derived.Test.YtlandkindbmbfaaL5
import Derived.Deep.RegionLaw
import Derived.Deep.CutRange
namespace Go.Proofs.Ytlandkindbmbfaa
open Go.RowKit Plain
attribute [local go_sem ↓] Go.wp_at_zero Go.wp_at_succ

set_option maxRecDepth 100000 in
set_option maxHeartbeats 32000000 in
theorem holds_row (v : Value) (ps : List Pt) {w : World} (h : PatsArg w v ps) (hpl : ∀ x, x ∈ ps → x.2.length ≤ 8796093021952) (u : Value) (rows : List Shp) (hu : ShpsArg w u rows) (mark : Int) :
    Calls Try.prog 11 #[v, u, .int .i64 mark] w fun e w' => e = .returned (.bool true) ∧ Below w.heap.size w w' := by
  obtain ⟨hv, hps, hn⟩ := h
  obtain ⟨hu, hrs, hrn⟩ := hu
  obtain ⟨i3, qi, q0, q1, q2⟩ := info_parts Try.info3
  obtain ⟨i39, pi, p0, p1, p2⟩ := info_parts Try.info39
  obtain ⟨i33, ri, r0, r1, r2⟩ := info_parts Try.info33
  obtain ⟨a, ca, rfl, ha⟩ := hv.form
  obtain ⟨b, cb, rfl, hb⟩ := hu.form
  have HV := Lib.hid hv
  have HA := Lib.hid ha
  have HU := Lib.hid hu
  have HB := Lib.hid hb
  have HPS := Lib.hid hps
  have HPL := Lib.hid hpl
  have HRS := Lib.hid hrs
  clear hv ha hu hb hps hpl hrs
  go_enter Try.func11, Try.ntmps11
  go_wp2
  go_loopw [7, 8] (fun q k wr => ∃ (o : Value) (i : Nat), o = q ∧ k = .int .i64 (i : Int) ∧ i ≤ ps.length ∧ Below w.heap.size w wr ∧ OwnPats wr w.heap.size o ((ps.take i).map prPt)) (fun _ k _ => ps.length - (intOf k).toNat)
  case atStart => exact ⟨_, 0, rfl, rfl, Nat.zero_le _, Below.refl _ _, OwnPats.nil _ _⟩
  case round =>
    obtain ⟨v, i, rfl, rfl, hil, hnx, hown⟩ := hrel
    have NX := Lib.hid hnx
    have hsz := hnx.size
    clear hnx
    by_cases h1 : i < ps.length
    · obtain ⟨g, off, rfl⟩ := HA.out (ne_of_lt_len h1)
      obtain ⟨x, hxi⟩ : ∃ x, ps[i]? = some x := ⟨ps[i]'h1, List.getElem?_eq_getElem h1⟩
      obtain ⟨hg, ux, c0, c1, hux⟩ := PatsAt.get (HV.out.below NX.out) hxi
      have hxl := HPL.out x (List.mem_of_getElem? hxi)
      have HD := Lib.hid (take_map_snoc (f := prPt) hxi)
      obtain ⟨acc, hacc⟩ : ∃ acc, acc = (ps.take i).map prPt := ⟨_, rfl⟩
      rw [← hacc] at hown HD
      have hal : acc.length ≤ i := by rw [hacc, List.length_map, List.length_take]; omega
      obtain ⟨au, cu, rfl, _⟩ := hux.form
      have HUX := Lib.hid (hux.mono hsz)
      have HO := Lib.hid hown
      clear hacc hown hux hxi
      go_wp2_with fail
      refine (proper_any x.1 x.2 _ wr HUX.out hxl).mono ?_
      rintro e w2 ⟨vs, rfl, hos, hb2⟩
      obtain ⟨aS, ns, cs, rfl⟩ := OwnSlots.form hos
      have HOS := Lib.hid (World.ownsRow.mono hos hsz)
      have N2 := Lib.hid (NX.out.trans (hb2.mono hsz))
      have O2 := Lib.hid (HO.out.up hb2)
      have h2z := N2.out.size
      clear hos hb2 NX HO c0 c1
      obtain ⟨vl, hvl, ho, hoi⟩ := O2.out
      have HOI := Lib.hid hoi
      have hone := one_pat (prP x.1) (B := w.heap.size) (l := x.2.map pf) HOS.out
      clear hoi O2
      go_wp2_with (at_builtin; refine wpList_append_own _ rfl _ _ 47 rfl w.heap.size 39 i39 (.agg #[.int .i64 0, .slice none 0 0]) 2 32 Try.underlying47 pi p0 p1 p2 rfl (by decide) v acc.length (flatP acc vl) rfl (ho.alloc _) ⟨w2.heap.size, 0, none⟩ 1 1 [.int .i64 (prP x.1), .slice aS ns cs] rfl rfl (World.news_of_block (cs := #[.int .i64 (prP x.1), .slice aS ns cs]) (t := 39) (fr := (0, 0)) (heap_alloc_new w2 _)) hone (by unfold maxLen; omega) (by omega) (by simp; omega) ?_; intro v' w5 hown' hgrow hnl)
      have R := Lib.hid (OwnPats.snoc (s := prPt x) hvl (ho.alloc (.cells #[.int .i64 (prP x.1), .slice aS ns cs] 39)) (fun j t x e1 e2 => World.ownsRow.alloc (HOI.out j t x e1 e2) _) (World.ownsRow.alloc HOS.out _) hown' hgrow)
      have hbl := Lib.hid ((N2.out.alloc h2z _).grown hgrow (by simp; omega) (fun k hk => (ho.lt k hk).1))
      clear hown' hgrow hnl ho hone
      go_roundw
      case rel => exact ⟨_, i + 1, rfl, by go_num, by omega, hbl.out, by rw [HD.out]; exact R.out⟩
      case measure => simp only [intOf]; omega
    · have e : i = ps.length := by omega
      obtain ⟨qs, hqs⟩ : ∃ qs, qs = ps.map prPt := ⟨_, rfl⟩
      rw [e, List.take_length, ← hqs] at hown
      have hqn : qs.length = ps.length := by rw [hqs, List.length_map]
      have hqk : OkPats qs := by rw [hqs]; exact prPt_oks HPS.out
      have hqp : ∀ x, x ∈ qs → 0 ≤ (shp x).pred := by rw [hqs]; exact prPt_preds HPS.out
      obtain ⟨aq, nq, cq, hqv⟩ : ∃ aq nq cq, v = .slice aq nq cq := by
        obtain ⟨a', c', e', _⟩ := hown.at.form
        exact ⟨_, _, _, e'⟩
      subst hqv
      obtain rfl : nq = qs.length := by
        obtain ⟨a', c', e', _⟩ := hown.at.form
        simp only [Value.slice.injEq] at e'; exact e'.2.1
      have hvalid := newB_valid (dist_new qs)
      have hnew := dist_new qs
      have hok := dist_oks hqk
      have hdl := distB_len qs
      have hsome := fun hx => dist_some (ps := qs) hqp hx
      obtain ⟨ss, hss⟩ : ∃ ss, ss = distB qs := ⟨_, rfl⟩
      have hql : qs.length ≤ 4398046510976 := by omega
      have HDI := Lib.hid (distinct_any qs _ wr hown.at hqk (by omega))
      unfold DistIs at HDI
      rw [← hss] at hvalid hnew hok hdl hsome HDI
      have HVA := Lib.hid hvalid
      have HNB := Lib.hid hnew
      have HOK := Lib.hid hok
      have hq0 : (¬ 0 < qs.length) ∨ (0 < qs.length ∧ ¬ ss = []) := by
        rcases Nat.eq_zero_or_pos qs.length with h0 | h0
        · exact .inl (by omega)
        · exact .inr ⟨h0, fun e => by have := hsome h0; rw [e] at this; cases this⟩
      have HQ0 := Lib.hid hq0
      clear hqk hqp hqs hvalid hnew hok hss hown e hqn hsome hq0
      go_wp2_with fail
      refine HDI.out.mono ?_
      rintro e w2 ⟨sv, rfl, hos, hb2⟩
      obtain ⟨aS, cS, rfl, hS⟩ := hos.at.form
      have HSF := Lib.hid hS
      have N2 := Lib.hid (NX.out.trans (hb2.mono hsz))
      have h2z := N2.out.size
      have HSA := Lib.hid hos.at
      clear hS hb2 NX HDI
      go_wp2_with fail
      refine (shapesOf_any ss _ w2 hos.at HOK.out (by omega)).mono ?_
      rintro e w3 ⟨ov, rfl, hoo, hb3⟩
      obtain ⟨aO, cO, rfl, hO⟩ := hoo.at.form
      have N3 := Lib.hid (N2.out.trans (hb3.mono h2z))
      have h3z := N3.out.size
      have HSA3 := Lib.hid ((HSA.out.below hb3).mono hb3.size)
      clear hO hos HSA hb3 N2
      go_wp2_with fail
      refine (new_any ss _ w3 hoo.at hoo.cap HOK.out (by omega)).mono ?_
      rintro e w4 (⟨hbad, _, _⟩ | ⟨_, G, X, mv, ms, rfl, hnet, hb4, hG0⟩)
      · rw [HNB.out] at hbad; cases hbad
      have N4 := Lib.hid (N3.out.trans (hb4.mono h3z))
      have h4z := N4.out.size
      have HN4 := Lib.hid hnet
      have HG0 := Lib.hid hG0
      have HSA3B := HSA3
      have HSA4 := Lib.hid ((HSA3.out.below hb4).mono hb4.size)
      have HOO4 := Lib.hid ((hoo.at.below hb4).mono hb4.size)
      have HB4 := Lib.hid hb4
      clear hnet hG0 hoo hb4 HNB
      go_upto_region 9 with fail
      go_cut [69] from 48 (fun c wx => c = .bool false ∧ Below w4.heap.size w4 wx)
      case first =>
        rcases HQ0.out with hq0 | ⟨hq0, hq1⟩
        all_goals
          go_wp2_with fail
          refine (shapes_same ss _ _ w4 HOO4.out HSA4.out HOK.out (by omega)).mono ?_
          rintro e w5 ⟨rfl, hb5⟩
          have HB9 := Lib.hid hb5
          clear hb5
          go_wp2
          go_meet
          case rel => exact ⟨by first | rfl | (simp [hq1]), HB9.out⟩
      case rest =>
        obtain ⟨rfl, hb5⟩ := hcut
        obtain ⟨w5, hw5⟩ : ∃ w5, w5 = wc := ⟨_, rfl⟩
        rw [← hw5] at hb5 ⊢
        clear hw5
        have N5 := Lib.hid (N4.out.trans (hb5.mono h4z))
        have HB5 := Lib.hid (HB4.out.trans (hb5.mono HB4.out.size))
        have HN5 := Lib.hid (HN4.out.up hb5)
        have h5z := N5.out.size
        have HG5 : Hid (∀ k, w4.heap.size ≤ k → G k = 0) := HN4.out.zero
        have HSA5 := Lib.hid ((HSA3B.out.below (HB4.out.mono (Nat.le_refl _))).below (hb5.mono HB4.out.size))
        have h54 := hb5.size
        clear hb5 HN4 HOO4 N4 HQ0 HSA4
        go_wp2
        go_loopw [13, 14] (fun q k wr => ∃ (o : Value) (i : Nat), o = q ∧ k = .int .i64 (i : Int) ∧ i ≤ rows.length ∧ Below w5.heap.size w5 wr ∧ OwnRws wr w5.heap.size o ((rows.take i).map us)) (fun _ k _ => rows.length - (intOf k).toNat)
        case atStart => exact ⟨_, 0, rfl, rfl, Nat.zero_le _, Below.refl _ _, OwnRws.nil _ _⟩
        case round =>
          obtain ⟨v, i, rfl, rfl, hil, hnx, hown⟩ := hrel
          have NX := Lib.hid hnx
          have hsz := hnx.size
          clear hnx
          by_cases h1 : i < rows.length
          · obtain ⟨g, off, rfl⟩ := HB.out (ne_of_lt_len h1)
            obtain ⟨x, hxi⟩ : ∃ x, rows[i]? = some x := ⟨rows[i]'h1, List.getElem?_eq_getElem h1⟩
            obtain ⟨hg, ux, c0, c1, hux, _⟩ := ShpsAt.get (HU.out.below (N5.out.trans (NX.out.mono h5z))) hxi
            have hxl := (HRS.out x (List.mem_of_getElem? hxi)).2
            have HD := Lib.hid (take_map_snoc (f := us) hxi)
            obtain ⟨acc, hacc⟩ : ∃ acc, acc = (rows.take i).map us := ⟨_, rfl⟩
            rw [← hacc] at hown HD
            have hal : acc.length ≤ i := by rw [hacc, List.length_map, List.length_take]; omega
            obtain ⟨au, cu, rfl, _⟩ := id hux
            have HUX := Lib.hid (hux.mono (Nat.le_trans h5z hsz))
            have HO := Lib.hid hown
            clear hacc hown hux hxi
            go_wp2_with fail
            refine (usual_any x _ wr HUX.out hxl).mono ?_
            rintro e w6 ⟨vs, rfl, hos, hb6⟩
            obtain ⟨aW, nW, cW, rfl⟩ := OwnInts.form hos
            have HOS := Lib.hid (World.ownsRow.mono hos hsz)
            have N6 := Lib.hid (NX.out.trans (hb6.mono hsz))
            have O6 := Lib.hid (HO.out.up hb6)
            have h6z := N6.out.size
            clear hos hb6 NX HO c0 c1
            obtain ⟨vl, hvl, ho, hoi⟩ := O6.out
            have HOI := Lib.hid hoi
            obtain ⟨y, hy⟩ : ∃ y, y = us x := ⟨_, rfl⟩
            rw [← hy] at HOS HD ⊢
            have hone := one_shape y.pred (B := w5.heap.size) (l := y.cells) HOS.out
            clear hoi O6 hy
            go_wp2_with (at_builtin; refine wpList_append_own _ rfl _ _ 30 rfl w5.heap.size 33 i33 (.agg #[.int .i64 0, .slice none 0 0]) 2 32 Try.underlying30 ri r0 r1 r2 rfl (by decide) v acc.length (flat acc vl) rfl (ho.alloc _) ⟨w6.heap.size, 0, none⟩ 1 1 [.int .i64 y.pred, .slice aW nW cW] rfl rfl (World.news_of_block (cs := #[.int .i64 y.pred, .slice aW nW cW]) (t := 33) (fr := (0, 0)) (heap_alloc_new w6 _)) hone (by unfold maxLen; omega) (by omega) (by simp; omega) ?_; intro v' w7 hown' hgrow hnl)
            have R := Lib.hid (OwnRws.snoc (s := y) hvl (ho.alloc (.cells #[.int .i64 y.pred, .slice aW nW cW] 33)) (fun j t x e1 e2 => World.ownsRow.alloc (HOI.out j t x e1 e2) _) (World.ownsRow.alloc HOS.out _) hown' hgrow)
            have hbl := Lib.hid ((N6.out.alloc h6z _).grown hgrow (by simp; omega) (fun k hk => (ho.lt k hk).1))
            clear hown' hgrow hnl ho hone
            go_roundw
            case rel => exact ⟨_, i + 1, rfl, by go_num, by omega, hbl.out, by rw [HD.out]; exact R.out⟩
            case measure => simp only [intOf]; omega
          · have e : i = rows.length := by omega
            obtain ⟨R, hR⟩ : ∃ R, R = rows.map us := ⟨_, rfl⟩
            rw [e, List.take_length, ← hR] at hown
            have hRn : R.length ≤ 4398046510976 := by rw [hR, List.length_map]; omega
            have HRR := Lib.hid (fun (k : Nat) (r : Shp) (hr : R[k]? = some r) => us_rows HRS.out (k := k) (r := r) (by rw [← hR]; exact hr))
            obtain ⟨aR, cR, rfl, hRF⟩ := hown.form
            have HRF := Lib.hid hRF
            have HRO := Lib.hid hown
            clear hR hown hRF e
            go_upto_region 16 with fail
            go_cut [2] from 84 (fun c wx => ∃ m : Nat, c = .int .i64 (m : Int) ∧ m ≤ R.length ∧ wx = wr)
            case first =>
              go_wp2
              all_goals
                go_meet
                case rel => first | exact ⟨0, rfl, by omega, rfl⟩ | exact ⟨R.length, rfl, by omega, rfl⟩ | exact ⟨mark.toNat, by rw [Int.toNat_of_nonneg (by omega)], by omega, rfl⟩
            case rest =>
              obtain ⟨m, rfl, hm, rfl⟩ := hcut
              obtain ⟨wS, hwS⟩ : ∃ wS, wS = wc := ⟨_, rfl⟩
              rw [← hwS] at NX hsz HRO ⊢
              clear hwS
              have NS := Lib.hid (N5.out.trans (NX.out.mono h5z))
              have HSS := Lib.hid (HSA5.out.below (NX.out.mono (show w3.heap.size ≤ w5.heap.size from HB5.out.size)))
              have HG3 : Hid (∀ k, k < w3.heap.size → G k < 2) := fun k hk => by rw [HG0.out k hk]; decide
              have HGR : Hid (∀ k, w5.heap.size ≤ k → G k < 2) := fun k hk => by rw [HG5.out k (Nat.le_trans h54 hk)]; decide
              have h3S : w3.heap.size ≤ wS.heap.size := Nat.le_trans HB5.out.size hsz
              have HH0 := Lib.hid (Held.start (HN5.out.up NX.out))
              clear HSA5 N5 HB5 HN5 HG5 HB4 HSA3 HSA3B HG0 NX N3
              obtain ⟨L, hL⟩ : ∃ L, L = R.length := ⟨_, rfl⟩
              obtain ⟨N2, hN2⟩ : ∃ N2, N2 = L + L := ⟨_, rfl⟩
              obtain ⟨N3, hN3⟩ : ∃ N3, N3 = N2 - m := ⟨_, rfl⟩
              rw [← hL] at hm hRn ⊢
              have hw1 : IntKind.i64.wrap ((L : Int) + (L : Int)) = (N2 : Int) := by rw [IntKind.wrap_i64]; omega
              have hw2 : IntKind.i64.wrap ((N2 : Int) - (m : Int)) = (N3 : Int) := by rw [IntKind.wrap_i64]; omega
              have HLL := Lib.hid hL
              clear hL
              go_wp2
              go_loopw [15] (fun k wr => ∃ i : Nat, k = .int .i64 (i : Int) ∧ i ≤ N3 ∧ Hid (Held wS G X mv ms ss (R.take (if i ≤ L then i else m + i - L)) wr)) (fun k _ => N3 - (intOf k).toNat)
              case atStart => exact ⟨0, rfl, Nat.zero_le _, HH0⟩
              case round =>
                obtain ⟨i, rfl, hil, hH⟩ := hrel
                by_cases h1 : i < N3
                · obtain ⟨gR, rfl⟩ := HRF.out (fun e => by rw [e] at HLL; have := HLL.out; simp at this; omega)
                  go_upto_if 104 with fail
                  go_cut [16] from 89 to 169 (fun c wx => ∃ kk : Nat, c = .int .i64 (kk : Int) ∧ wx = wr ∧ ((i < L ∧ kk = i) ∨ (L ≤ i ∧ kk = m + i - L)))
                  case first =>
                    by_cases h2 : i < L
                    · have hd : decide ((i : Int) ≥ (L : Int)) = false := decide_eq_false (by omega)
                      go_wp2
                      go_meet
                      case rel => exact ⟨i, rfl, rfl, .inl ⟨h2, rfl⟩⟩
                    · have hd : decide ((i : Int) ≥ (L : Int)) = true := decide_eq_true (by omega)
                      obtain ⟨M1, hM1⟩ : ∃ M1, M1 = m + i := ⟨_, rfl⟩
                      have hw3 : IntKind.i64.wrap ((m : Int) + (i : Int)) = (M1 : Int) := by rw [IntKind.wrap_i64]; omega
                      obtain ⟨M2, hM2⟩ : ∃ M2, M2 = m + i - L := ⟨_, rfl⟩
                      have hw4 : IntKind.i64.wrap ((M1 : Int) - (L : Int)) = (M2 : Int) := by rw [IntKind.wrap_i64]; omega
                      go_wp2
                      go_meet
                      case rel => exact ⟨M2, congrArg (Value.int .i64) (show ((m : Int) + (i : Int) - (L : Int)) = (M2 : Int) by omega), rfl, .inr ⟨by omega, hM2⟩⟩
                  case rest =>
                    obtain ⟨kk, rfl, hwc, hkk⟩ := hcut
                    rw [hwc]
                    clear hwc
                    go_upto_region 23 with fail
                    go_cut [120] from 89 to 169 (fun c wx => c = .bool false ∧ Hid (Held wS G X mv ms ss (R.take kk) wx))
                    case first =>
                      by_cases h2 : i = L
                      · have e2 : kk = m := by omega
                        have hb2 : ((i : Int) == (L : Int)) = true := by simp [h2]
                        rw [if_pos (by omega)] at hH
                        have HUN : Hid (Calls Try.prog 46 #[.pointer (some ⟨X, 0, none⟩), .int .i64 (m : Int)] wr fun e w' => e = .returned (.int .i64 0) ∧ Held wS G X mv ms ss (R.take kk) w') := by
                          have := held_undo hH.out (by omega) (show (R.take i).length ≤ 17592186044400 by rw [List.length_take, ← HLL.out]; omega) (show m ≤ (R.take i).length by rw [List.length_take, ← HLL.out]; omega)
                          rw [List.take_take, Nat.min_eq_left (by omega)] at this
                          rw [e2]; exact this
                        clear hH hkk e2 h2
                        go_wp2_with fail
                        refine HUN.out.mono ?_
                        rintro e w6 ⟨rfl, hh⟩
                        have HH6 := Lib.hid hh
                        clear hh
                        go_wp2
                        go_meet
                        case rel => exact ⟨rfl, HH6⟩
                      · have hb2 : ((i : Int) == (L : Int)) = false := beq_eq_false_iff_ne.2 (by omega)
                        have e2 : (if i ≤ L then i else m + i - L) = kk := by split <;> omega
                        rw [e2] at hH
                        clear e2 h2 hkk
                        go_wp2
                        go_meet
                        case rel => exact ⟨rfl, hH⟩
                    case rest =>
                      obtain ⟨rfl, hH6⟩ := hcut
                      obtain ⟨w6, hw6⟩ : ∃ w6, w6 = wc := ⟨_, rfl⟩
                      rw [← hw6] at hH6 ⊢
                      clear hw6 hH
                      have hkL : kk < L := by omega
                      obtain ⟨r, hr⟩ : ∃ r, R[kk]? = some r := ⟨R[kk]'(by rw [← HLL.out]; exact hkL), List.getElem?_eq_getElem _⟩
                      obtain ⟨au, cu, hel, hub⟩ := OwnRws.el HRO.out HGR.out hr
                      have HEL := Lib.hid hel
                      obtain ⟨hrp, hrn, hrl⟩ := HRR.out kk r hr
                      have HRN := Lib.hid hrn
                      have HTS := Lib.hid (take_add hr)
                      have E6 := Lib.hid (hel w6 hH6.out.turned)
                      have c0 := E6.out.c0
                      have c1 := E6.out.c1
                      have hrt : (R.take kk).length < 17592186044400 := by rw [List.length_take, ← HLL.out]; omega
                      have HAD := Lib.hid (held_add hH6.out.drew (by omega) HOK.out HVA.out hrt r (.slice au r.cells.length cu) (by exact E6.out.ints) hub (by omega) hrp hrn)
                      have hkk1 : (kk : Int) < (L : Int) := by omega
                      have hkk0 : (0 : Int) ≤ (kk : Int) := Int.natCast_nonneg _
                      obtain ⟨k1, hk1⟩ : ∃ k1, k1 = kk + 1 := ⟨_, rfl⟩
                      have hwk : IntKind.i64.wrap ((kk : Int) + 1) = (k1 : Int) := by rw [IntKind.wrap_i64]; omega
                      have HK1 := Lib.hid hk1
                      have HKK := Lib.hid hkk
                      clear hr hel hub hrn hrp hrt hk1 hkk
                      go_wp2_with fail
                      go_region_held3 (fun w' => w'.cell? ⟨gR, kk * 2, none⟩ = some (.int .i64 r.pred) ∧ w'.cell? ⟨gR, kk * 2 + 1, none⟩ = some (.slice au r.cells.length cu))
                        (first | exact ⟨c0, c1⟩ | exact ⟨m0, m1⟩)
                        (first
                          | (go_at_call 43; refine HAD.out.mono ?_; rintro e w7 ⟨mem, rfl, hh, hown⟩; have HH7 := Lib.hid hh; have E7 := Lib.hid (HEL.out w7 hh.turned); have m0 := E7.out.c0; have m1 := E7.out.c1; have HMO := Lib.hid hown; clear hh hown))
                      obtain ⟨am, nm, cm, rfl⟩ := OwnInts.form HMO.out
                      rw [HTS.out] at HH7
                      have HLN : Hid (Calls Try.prog 37 #[.pointer (some ⟨X, 0, none⟩)] w7 fun e w' => e = .returned (.int .i64 (k1 : Int)) ∧ w7 = w') := by
                        have := held_len HH7.out
                        rw [List.length_take, ← HLL.out, Nat.min_eq_left (by omega), ← HK1.out] at this
                        exact this
                      clear c0 c1 m0 m1 HAD
                      go_wp2_with fail
                      refine HLN.out.mono ?_
                      rintro e w' ⟨rfl, rfl⟩
                      clear HLN
                      go_wp2
                      go_loopw [19] (fun k wr => ∃ j : Nat, k = .int .i64 (j : Int) ∧ j ≤ ss.length ∧ Hid (Below w7.heap.size w7 wr)) (fun k _ => ss.length - (intOf k).toNat)
                      case atStart => exact ⟨0, rfl, Nat.zero_le _, Lib.hid (Below.refl _ _)⟩
                      case round =>
                        obtain ⟨j, rfl, hjl, NX⟩ := hrel
                        have h7z := NX.out.size
                        by_cases h3 : j < ss.length
                        · obtain ⟨s, hs⟩ : ∃ s, ss[j]? = some s := ⟨ss[j]'h3, List.getElem?_eq_getElem h3⟩
                          obtain ⟨gS, oS, rfl⟩ := HSF.out (ne_of_lt_len h3)
                          have hS7 : w3.heap.size ≤ w7.heap.size := Nat.le_trans h3S HH7.out.turned.size
                          obtain ⟨ax, cx, ex⟩ := ShpsAt.el (j := j) ((HSS.out.below (HH7.out.turned.below h3S HG3.out)).below (NX.out.mono hS7)) (Nat.le_trans hS7 h7z) hs
                          have EX := Lib.hid ex
                          have E8 := Lib.hid (E7.out.below NX.out)
                          have HMI := Lib.hid (((HMO.out.at).below NX.out).mono h7z)
                          have hsok := HOK.out s (List.mem_of_getElem? hs)
                          obtain ⟨fb, hfb⟩ : ∃ fb, fb = fitsB s r.pred r.cells := ⟨_, rfl⟩
                          have HFB := Lib.hid hfb
                          have HMB := Lib.hid (show decide ((j : Int) ∈ took ss r) = fb by rw [hfb]; exact took_mem hs)
                          have htl := took_len ss r
                          have c0 := EX.out.c0
                          have c1 := EX.out.c1
                          have c2 := E8.out.c0
                          have c3 := E8.out.c1
                          have j0 : (0 : Int) ≤ (j : Int) := Int.natCast_nonneg _
                          have j1 : (j : Int) < (ss.length : Int) := by omega
                          clear hfb hs ex
                          go_wp2_with fail
                          go_region_held3 (fun w' => w'.cell? ⟨gS, oS + j * 2, none⟩ = some (.int .i64 s.pred) ∧ w'.cell? ⟨gS, oS + j * 2 + 1, none⟩ = some (.slice ax s.cells.length cx) ∧ w'.cell? ⟨gR, kk * 2, none⟩ = some (.int .i64 r.pred) ∧ w'.cell? ⟨gR, kk * 2 + 1, none⟩ = some (.slice au r.cells.length cu))
                            (first | exact ⟨c0, c1, c2, c3⟩ | exact ⟨m0, m1, m2, m3⟩)
                            (first
                              | (go_at_call 47; refine (member_any (took ss r) (j : Int) _ _ (by exact HMI.out) (by omega)).mono ?_; rintro e w' ⟨rfl, rfl⟩; rw [HMB.out])
                              | (go_at_call 19; refine (fits_any s _ r.pred r.cells _ _ (by exact EX.out.ints) EX.out.nil hsok.1 hsok.2 (by exact E8.out.ints) (by omega)).mono ?_; rintro e w8 ⟨rfl, hb8'⟩; rw [← HFB.out]; have hb8 : Below wr.heap.size wr w8 := ⟨hb8'.os, hb8'.tape, hb8'.output, hb8'.size, hb8'.block⟩; clear hb8'; have X8 := Lib.hid (EX.out.below hb8); have R8 := Lib.hid (E8.out.below hb8); have m0 := X8.out.c0; have m1 := X8.out.c1; have m2 := R8.out.c0; have m3 := R8.out.c1; have hbn : (fb != fb) = false := by simp))
                          have NX8 := Lib.hid (NX.out.trans (hb8.mono h7z))
                          go_wp2
                          go_roundw
                          case rel => exact ⟨j + 1, by go_num, by omega, NX8⟩
                          case measure => simp only [intOf]; omega
                        · have HN : Hid (Held wS G X mv ms ss (R.take (if i + 1 ≤ L then i + 1 else m + (i + 1) - L)) wr) := by
                            have hkk := HKK.out
                            have e : (if i + 1 ≤ L then i + 1 else m + (i + 1) - L) = kk + 1 := by split <;> omega
                            rw [e]; exact HH7.out.up NX.out
                          clear hwk
                          go_wp2
                          go_roundw
                          case rel => exact ⟨i + 1, by go_num, by omega, HN⟩
                          case measure => simp only [intOf]; omega
                · have HHR : Hid (Held wS G X mv ms ss R wr) := by
                    have e : (if i ≤ L then i else m + i - L) = L := by split <;> omega
                    have := hH.out
                    rw [e, HLL.out, List.take_length] at this
                    exact this
                  have NR9 := Lib.hid (NS.out.trans (HHR.out.turned.below (Nat.le_trans h3z h3S) (fun k hk => HG3.out k (Nat.lt_of_lt_of_le hk h3z))))
                  obtain ⟨w9, hw9⟩ : ∃ w9, w9 = wr := ⟨_, rfl⟩
                  rw [← hw9] at HHR NR9 ⊢
                  have h39 : w3.heap.size ≤ w9.heap.size := Nat.le_trans h3S HHR.out.turned.size
                  have HS9 := Lib.hid (HSS.out.below (HHR.out.turned.below h3S HG3.out))
                  have hRl : R.length ≤ 17592186044400 := by rw [← HLL.out]; omega
                  have HRL := Lib.hid hRl
                  clear hw9 hH hw1 hw2 hRl
                  go_wp2
                  go_loopw [20] (fun k wr => ∃ j : Nat, k = .int .i64 (j : Int) ∧ j ≤ ss.length ∧ Hid (Below w9.heap.size w9 wr)) (fun k _ => ss.length - (intOf k).toNat)
                  case atStart => exact ⟨0, rfl, Nat.zero_le _, Lib.hid (Below.refl _ _)⟩
                  case round =>
                    obtain ⟨j, rfl, hjl, NX⟩ := hrel
                    have h9z := NX.out.size
                    by_cases h3 : j < ss.length
                    · obtain ⟨s, hs⟩ : ∃ s, ss[j]? = some s := ⟨ss[j]'h3, List.getElem?_eq_getElem h3⟩
                      obtain ⟨gS, oS, rfl⟩ := HSF.out (ne_of_lt_len h3)
                      have hsok := HOK.out s (List.mem_of_getElem? hs)
                      have HSJ := Lib.hid hs
                      have HRW := Lib.hid (held_rows (HHR.out.up NX.out) HRL.out hs)
                      clear hs
                      go_wp2_with fail
                      refine HRW.out.mono ?_
                      rintro e w10 ⟨gv, rfl, hgo, hb10⟩
                      obtain ⟨ag, ng, cg, rfl⟩ := OwnInts.form hgo
                      have HGO := Lib.hid hgo
                      have NXT := Lib.hid (NX.out.trans (hb10.mono h9z))
                      have h10z := NXT.out.size
                      clear hgo hb10 HRW
                      go_wp2
                      go_loopw [23, 24] (fun q k wr => ∃ (o : Value) (i : Nat), o = q ∧ k = .int .i64 (i : Int) ∧ i ≤ L ∧ Hid (Below w10.heap.size w10 wr) ∧ OwnInts wr w10.heap.size o (nums s (R.take i))) (fun _ k _ => L - (intOf k).toNat)
                      case atStart => exact ⟨_, 0, rfl, rfl, Nat.zero_le _, Lib.hid (Below.refl _ _), OwnInts.nil _ _⟩
                      case round =>
                        obtain ⟨v, i, rfl, rfl, hil, NY, hown⟩ := hrel
                        have hyz := NY.out.size
                        have HW := Lib.hid hown
                        clear hown
                        have NZ := Lib.hid (NXT.out.trans (NY.out.mono h10z))
                        have h9w := NZ.out.size
                        by_cases h4 : i < L
                        · obtain ⟨r, hr⟩ : ∃ r, R[i]? = some r := ⟨R[i]'(by rw [← HLL.out]; exact h4), List.getElem?_eq_getElem _⟩
                          obtain ⟨gR, rfl⟩ := HRF.out (fun e => by rw [e] at hr; cases hr)
                          obtain ⟨au, cu, hel, _⟩ := OwnRws.el HRO.out HGR.out hr
                          have E8 := Lib.hid (hel wr (HHR.out.up NZ.out).turned)
                          obtain ⟨ax, cx, ex⟩ := ShpsAt.el (j := j) (HS9.out.below (NZ.out.mono h39)) (Nat.le_trans h39 h9w) HSJ.out
                          have EX := Lib.hid ex
                          obtain ⟨hrp, hrn, hrl⟩ := HRR.out i r hr
                          have HNX := Lib.hid (idx_next (f := fitR s) hr)
                          obtain ⟨fb, hfb⟩ : ∃ fb, fb = fitsB s r.pred r.cells := ⟨_, rfl⟩
                          have HFB := Lib.hid hfb
                          have hnl : (nums s (R.take i)).length ≤ i := Nat.le_trans (idx_length _) (by rw [List.length_take]; omega)
                          obtain ⟨acc, hacc⟩ : ∃ acc, acc = nums s (R.take i) := ⟨_, rfl⟩
                          rw [← hacc] at HW hnl
                          have HAC := Lib.hid hacc
                          have c0 := EX.out.c0
                          have c1 := EX.out.c1
                          have c2 := E8.out.c0
                          have c3 := E8.out.c1
                          have j0 : (0 : Int) ≤ (i : Int) := Int.natCast_nonneg _
                          have j1 : (i : Int) < (L : Int) := by omega
                          have j2 : (0 : Int) ≤ (j : Int) := Int.natCast_nonneg _
                          have j3 : (j : Int) < (ss.length : Int) := by omega
                          clear hfb hel ex hr hacc hrn hrp
                          go_wp2_with fail
                          go_region_held3 (fun w' => w'.cell? ⟨gS, oS + j * 2, none⟩ = some (.int .i64 s.pred) ∧ w'.cell? ⟨gS, oS + j * 2 + 1, none⟩ = some (.slice ax s.cells.length cx) ∧ w'.cell? ⟨gR, i * 2, none⟩ = some (.int .i64 r.pred) ∧ w'.cell? ⟨gR, i * 2 + 1, none⟩ = some (.slice au r.cells.length cu))
                            (first | exact ⟨c0, c1, c2, c3⟩ | exact ⟨m0, m1, m2, m3⟩)
                            (first
                              | (go_at_call 19; refine (fits_any s _ r.pred r.cells _ _ (by exact EX.out.ints) EX.out.nil hsok.1 hsok.2 (by exact E8.out.ints) (by omega)).mono ?_; rintro e w8 ⟨rfl, hb8'⟩; rw [← HFB.out]; have hb8 : Below wr.heap.size wr w8 := ⟨hb8'.os, hb8'.tape, hb8'.output, hb8'.size, hb8'.block⟩; clear hb8'; have X8 := Lib.hid (EX.out.below hb8); have R8 := Lib.hid (E8.out.below hb8); have m0 := X8.out.c0; have m1 := X8.out.c1; have m2 := R8.out.c0; have m3 := R8.out.c1))
                          have NY8 := Lib.hid (NY.out.trans (hb8.mono hyz))
                          have HW8 := Lib.hid (HW.out.up hb8)
                          have hy8 := NY8.out.size
                          clear c0 c1 c2 c3 m0 m1 m2 m3
                          cases fb with
                          | false =>
                            have HN : Hid (nums s (R.take (i + 1)) = acc) := by
                              have := HNX.out
                              rw [if_neg (show ¬ fitR s r = true by show ¬ fitsB s r.pred r.cells = true; rw [← HFB.out]; decide), List.append_nil] at this
                              rw [HAC.out]; exact this
                            go_wp2
                            go_roundw
                            case rel => exact ⟨_, i + 1, rfl, by go_num, by omega, NY8, by rw [HN.out]; exact HW8.out⟩
                            case measure => simp only [intOf]; omega
                          | true =>
                            have HN : Hid (nums s (R.take (i + 1)) = acc ++ [(i : Int)]) := by
                              have := HNX.out
                              rw [if_pos (show fitR s r = true from HFB.out.symm)] at this
                              rw [HAC.out]; exact this
                            go_wp2_with (at_builtin; refine wpList_append_own _ rfl _ _ 25 rfl w10.heap.size 3 i3 (.int .i64 0) 1 8 Try.underlying25 qi q0 q1 q2 rfl (by decide) v acc.length (lits acc) rfl (World.ownsRow.alloc HW8.out (.cells #[.int .i64 (i : Int)] 3)) ⟨w8.heap.size, 0, none⟩ 1 1 [.int .i64 (i : Int)] rfl rfl (cell_one_new _ _ _) (one_i64 _) (by unfold maxLen; omega) (by omega) (by simp; omega) ?_; intro v' w11 hown' hgrow hnl2)
                            have HR1 : Hid (OwnInts w11 w10.heap.size v' (acc ++ [(i : Int)])) := by
                              unfold OwnInts Hid; rw [lits_snoc, List.length_append, List.length_singleton]; exact hown'
                            have NB := Lib.hid ((NY8.out.alloc hy8 _).grown hgrow (by simp; omega) (fun k hk => (HW8.out.lt k hk).1))
                            clear hown' hgrow hnl2
                            go_roundw
                            case rel => exact ⟨_, i + 1, rfl, by go_num, by omega, NB, by rw [HN.out]; exact HR1.out⟩
                            case measure => simp only [intOf]; omega
                        · have HWE : Hid (OwnInts wr w10.heap.size v (nums s R)) := by
                            have e : i = R.length := by rw [← HLL.out]; omega
                            have := HW.out
                            rw [e, List.take_length] at this
                            exact this
                          have hnl : (nums s R).length ≤ 35184372088832 := by have : (nums s R).length ≤ R.length := idx_length _; have := HRL.out; omega
                          have HIN : Hid (Calls Try.prog 21 #[.slice ag ng cg, v] wr (BoolIs wr true)) := by
                            have := ints_any (nums s R) (nums s R) (.slice ag ng cg) v wr (((HGO.out.at).below NY.out).mono hyz) HWE.out.at hnl hnl
                            rw [decide_eq_true rfl] at this
                            exact this
                          go_wp2_with fail
                          refine HIN.out.mono ?_
                          rintro e w12 ⟨rfl, hb12⟩
                          have NZ2 := Lib.hid (NZ.out.trans (hb12.mono h9w))
                          clear hb12 HIN
                          go_wp2
                          go_roundw
                          case rel => exact ⟨j + 1, by go_num, by omega, NZ2⟩
                          case measure => simp only [intOf]; omega
                    · have HLN : Hid (Calls Try.prog 37 #[.pointer (some ⟨X, 0, none⟩)] wr fun e w' => e = .returned (.int .i64 (L : Int)) ∧ wr = w') := by
                        have := held_len (HHR.out.up NX.out)
                        rw [← HLL.out] at this
                        exact this
                      have NF := Lib.hid (NR9.out.trans (NX.out.mono NR9.out.size))
                      go_wp2_with fail
                      refine HLN.out.mono ?_
                      rintro e w' ⟨rfl, rfl⟩
                      go_wp2
                      go_ret
                      exact ⟨ret_bool (by simp), NF.out⟩

end Go.Proofs.Ytlandkindbmbfaa
