/-
  The walks of edictref10.has and edictref10.Distinct: whether a shape stands in a list; the patterns' shapes, each once. Conditions: the numbers are ints, the lists within the form's own reach.
-/
import Derived.Test.YtlandkindbmbfaaW16
import Derived.StillTailTactics
namespace Go.Proofs.Ytlandkindbmbfaa
open Go.RowKit Plain

set_option maxRecDepth 100000 in
set_option maxHeartbeats 1600000 in
theorem has_any (ss : List Shp) (v : Value) (s : Shp) (u : Value) (w : World) (hv : ShpsAt w w.heap.size v ss) (hss : Okays ss) (hn : ss.length ≤ 4398046510976) (hu : IntsAt w w.heap.size u s.cells) (hs : Okay s) :
    Calls Try.prog 54 #[v, .agg #[.int .i64 s.pred, u]] w (BoolIs w (standsB ss s)) := by
  obtain ⟨b, cb, rfl, _⟩ := id hu
  obtain ⟨W0, hW0⟩ : ∃ W0, W0 = w.alloc (.cells #[.int .i64 s.pred, .slice b s.cells.length cb] 27) := ⟨_, rfl⟩
  have HB0 := Lib.hid (show Below w.heap.size w W0 by rw [hW0]; exact up_alloc _ _)
  have HX := Lib.hid (show ShBox W0 w.heap.size s (.slice b s.cells.length cb) by rw [hW0]; exact ShBox.made hu)
  have HV := Lib.hid ((hv.below HB0.out).mono HB0.out.size)
  obtain ⟨a, ca, rfl, ha⟩ := hv.form
  have HA := Lib.hid ha
  clear hu hv ha
  go_enter Try.func54, Try.ntmps54
  go_wp2
  rw [← hW0]
  clear hW0
  go_loopw [5] (fun k wr => ∃ i : Nat, k = .int .i64 (i : Int) ∧ i ≤ ss.length ∧ Below W0.heap.size W0 wr ∧ Hid (NoTo ss s i)) (fun k _ => ss.length - (intOf k).toNat)
  case atStart => exact ⟨0, rfl, Nat.zero_le _, Below.refl _ _, NoTo.start _ _⟩
  case round =>
    obtain ⟨i, rfl, hil, hnx, hE⟩ := hrel
    have NX := Lib.hid hnx
    clear hnx
    by_cases h1 : i < ss.length
    · obtain ⟨g, off, rfl⟩ := HA.out (ne_of_lt_len h1)
      obtain ⟨t, hti⟩ : ∃ t, ss[i]? = some t := ⟨ss[i]'h1, List.getElem?_eq_getElem h1⟩
      obtain ⟨hg, x, c0, c1, hx, _⟩ := ShpsAt.get (HV.out.below NX.out) hti
      have hok := hss t (List.mem_of_getElem? hti)
      have HXI := Lib.hid (hx.mono NX.out.size)
      have HSB := Lib.hid (HX.out.below NX.out)
      have HTI := Lib.hid hti
      obtain ⟨ax, cx, rfl, _⟩ := HXI.out
      have d0 := HSB.out.1
      have d1 := HSB.out.2.1
      have i1 : (i : Int) < (ss.length : Int) := by omega
      clear hx hti
      go_wp2_with fail
      go_still_tail 5, (by kernel_rfl)
      change wpList _ _ _ _ _ wr.drew
      generalize hW : wr.drew = w2
      have NX2 := Lib.hid (show Below W0.heap.size W0 w2 by rw [← hW]; exact Below.drew NX.out)
      have HX2 := Lib.hid (show IntsAt w2 w2.heap.size _ t.cells by rw [← hW]; exact HXI.out.heap rfl)
      have HS2 := Lib.hid (show IntsAt w2 w2.heap.size _ s.cells by rw [← hW]; exact HSB.out.2.2.1.heap rfl)
      clear hW c0 c1 d0 d1 HXI HSB NX
      go_wp2_with fail
      refine (refSame_any t s _ _ w2 ⟨_, rfl, HX2.out⟩ ⟨_, rfl, HS2.out⟩ hok.1 hs).mono ?_
      rintro e w3 ⟨rfl, hb3⟩
      rw [sameB_symm]
      have NX3 := Lib.hid (NX2.out.trans (hb3.mono NX2.out.size))
      clear hb3
      cases hst : sameB s t with
      | true =>
        have HR := Lib.hid (stands_yes HTI.out hst)
        clear hst
        go_wp2
        go_ret
        exact ⟨ret_bool HR.out.symm, HB0.out.trans (NX3.out.mono HB0.out.size)⟩
      | false =>
        have HE := Lib.hid (hE.out.round HTI.out hst)
        clear hst hE
        go_wp2
        go_roundw
        case rel => exact ⟨i + 1, by go_num, by omega, NX3.out, HE.out⟩
        case measure => simp only [intOf]; omega
    · have e : i = ss.length := by omega
      have HR := Lib.hid (stands_no (by rw [← e]; exact hE.out))
      clear e hE
      go_wp2
      go_ret
      exact ⟨ret_bool HR.out.symm, HB0.out.trans (NX.out.mono HB0.out.size)⟩

set_option maxRecDepth 100000 in
set_option maxHeartbeats 3200000 in
theorem refDistinct_any (ps : List Pt) (v : Value) (w : World) (hv : PatsAt w w.heap.size v ps) (hps : OkPats ps) (hn : ps.length ≤ 4398046510976) :
    Calls Try.prog 28 #[v] w (DistIs ps w) := by
  obtain ⟨i27, pi, p0, p1, p2⟩ := info_parts Try.info27'
  obtain ⟨a, cap, rfl, ha⟩ := hv.form
  have HV := Lib.hid hv
  have HA := Lib.hid ha
  clear hv ha
  go_enter Try.func28, Try.ntmps28
  go_wp2
  go_loopw [3, 4] (fun v k wr => DistRel ps w v k wr) (fun _ k _ => ps.length - (intOf k).toNat)
  case atStart => exact ⟨_, 0, rfl, rfl, Nat.zero_le _, Below.refl _ _, OwnShps.nil _ _⟩
  case round =>
    obtain ⟨v, i, rfl, rfl, hil, hnx, hown⟩ := hrel
    have NX := Lib.hid hnx
    have hsz := hnx.size
    clear hnx
    by_cases h1 : i < ps.length
    · obtain ⟨g, off, rfl⟩ := HA.out (ne_of_lt_len h1)
      obtain ⟨x, hxi⟩ : ∃ x, ps[i]? = some x := ⟨ps[i]'h1, List.getElem?_eq_getElem h1⟩
      obtain ⟨hg, u, c0, c1, hu⟩ := PatsAt.get (HV.out.below NX.out) hxi
      have hok := hps x (List.mem_of_getElem? hxi)
      have hsok := shp_okay hok
      have HD := Lib.hid (distB_next hxi)
      have hdo := dist_okays hps i
      obtain ⟨acc, hacc⟩ : ∃ acc, acc = distB (ps.take i) := ⟨_, rfl⟩
      rw [← hacc] at hown hdo HD
      have hal : acc.length ≤ i := by rw [hacc]; refine Nat.le_trans (distB_len _) ?_; rw [List.length_take]; omega
      obtain ⟨au, cu, rfl, _⟩ := hu.form
      have HU := Lib.hid (hu.mono hsz)
      have HO := Lib.hid hown
      clear hacc hown hu hxi
      go_wp2_with fail
      refine (refShape_any x.1 x.2 _ wr HU.out hok.2.1 hok.2.2).mono ?_
      rintro e w2 ⟨vs, rfl, hos, hb2⟩
      obtain ⟨aS, ns, cs, rfl⟩ := hos.form
      have IS := Lib.hid hos.at
      have HOS := Lib.hid (hos.mono hsz)
      have N2 := Lib.hid (NX.out.trans (hb2.mono hsz))
      have O2 := Lib.hid (HO.out.up hb2)
      clear hos hb2 c0 c1 NX HO
      have hshp : shapeB x.1 x.2 = shp x := rfl
      rw [hshp] at IS HOS ⊢
      obtain ⟨s, hs⟩ : ∃ s, s = shp x := ⟨_, rfl⟩
      rw [← hs] at IS HOS hsok ⊢
      have HSX := Lib.hid hs
      have h2z := N2.out.size
      clear hs hshp
      have HVI := Lib.hid (show validB s = decide (0 ≤ s.pred) by rw [HSX.out]; exact shape_valid_iff x.1 x.2)
      go_wp2_with fail
      generalize hx : w2.alloc (.cells #[.int .i64 s.pred, .slice aS ns cs] 27) = w3
      have hb : Below w2.heap.size w2 w3 := by rw [← hx]; exact up_alloc _ _
      have SBx := Lib.hid (show ShBox w3 w2.heap.size s (.slice aS ns cs) by rw [← hx]; exact ShBox.made IS.out)
      have N3 := Lib.hid (N2.out.trans (hb.mono h2z))
      have O3 := Lib.hid (O2.out.up hb)
      have HOS3 := Lib.hid (HOS.out.kept (World.grownBy_alloc w2 (.cells #[.int .i64 s.pred, .slice aS ns cs] 27) none) (lt_of_own HOS.out (.inl rfl)))
      rw [hx] at HOS3
      clear hx hb O2 HOS IS
      refine (refValid_any s _ w3 SBx.out.2.2.1 hsok.1.ints hsok.1.len).mono ?_
      rintro e w3b ⟨rfl, hbv⟩
      rw [HVI.out]
      replace O3 := Lib.hid (O3.out.up hbv)
      replace SBx := Lib.hid (SBx.out.below hbv)
      replace HOS3 := Lib.hid (show OwnInts w3b w.heap.size (.slice aS ns cs) s.cells from World.ownsRow.kept HOS3.out ⟨hbv.os, hbv.tape, hbv.output, hbv.size, fun k hk _ => hbv.block k hk⟩ (lt_of_own HOS3.out (.inl rfl)))
      replace N3 := Lib.hid (N3.out.trans (hbv.mono N3.out.size))
      clear hbv
      by_cases hp : s.pred < 0
      · have HN := Lib.hid (show distB (ps.take (i + 1)) = acc by rw [HD.out]; exact stepD_neg (by rw [← HSX.out]; exact hp))
        rw [decide_eq_false (show ¬ 0 ≤ s.pred by omega)]
        go_wp2
        go_roundw
        case rel => exact ⟨_, i + 1, rfl, by go_num, by omega, N3.out, by rw [HN.out]; exact O3.out⟩
        case measure => simp only [intOf]; omega
      · rw [decide_eq_true (show 0 ≤ s.pred by omega)]
        have q0 := SBx.out.1
        have q1 := SBx.out.2.1
        go_wp2_with fail
        clear q0 q1
        refine (has_any acc v s _ w3b O3.out.at hdo (by omega) SBx.out.2.2.1 hsok.1).mono ?_
        rintro e w4 ⟨rfl, hb4⟩
        have h3z := N3.out.size
        have N4 := Lib.hid (N3.out.trans (hb4.mono h3z))
        have O4 := Lib.hid (O3.out.up hb4)
        have SB4 := Lib.hid (SBx.out.below hb4)
        have HOS4 := Lib.hid (show OwnInts w4 w.heap.size (.slice aS ns cs) s.cells from World.ownsRow.kept HOS3.out ⟨hb4.os, hb4.tape, hb4.output, hb4.size, fun k hk _ => hb4.block k hk⟩ (lt_of_own HOS3.out (.inl rfl)))
        clear hb4 O3 SBx HOS3
        cases hst : standsB acc s with
        | true =>
          have HN := Lib.hid (show distB (ps.take (i + 1)) = acc by rw [HD.out]; exact stepD_old (by rw [← HSX.out]; exact hst))
          clear hst
          go_wp2
          go_roundw
          case rel => exact ⟨_, i + 1, rfl, by go_num, by omega, N4.out, by rw [HN.out]; exact O4.out⟩
          case measure => simp only [intOf]; omega
        | false =>
          have HN := Lib.hid (show distB (ps.take (i + 1)) = acc ++ [s] by rw [HD.out, HSX.out]; exact stepD_yes (by rw [← HSX.out]; omega) (by rw [← HSX.out]; exact hst))
          obtain ⟨vl, hvl, ho, hoi⟩ := O4.out
          have HOI := Lib.hid hoi
          have k0 := SB4.out.1
          have k1 := SB4.out.2.1
          have h4z := N4.out.size
          have hone := one_shape s.pred HOS4.out
          clear hst hoi O4
          go_wp2_with (at_builtin; refine wpList_append_own _ rfl _ _ 22 rfl w.heap.size 27 i27 (.agg #[.int .i64 0, .slice none 0 0]) 2 32 Try.underlying22 pi p0 p1 p2 rfl (by decide) v acc.length (flat acc vl) rfl (ho.alloc _) ⟨w4.heap.size, 0, none⟩ 1 1 [.int .i64 s.pred, .slice aS ns cs] rfl rfl (World.news_of_block (cs := #[.int .i64 s.pred, .slice aS ns cs]) (t := 27) (fr := (0, 0)) (heap_alloc_new w4 _)) hone (by unfold maxLen; omega) (by omega) (by simp; omega) ?_; intro v' w5 hown' hgrow hnl)
          have R := OwnShps.snoc hvl (ho.alloc (.cells #[.int .i64 s.pred, .slice aS ns cs] 27)) (fun j t x e1 e2 => World.ownsRow.alloc (HOI.out j t x e1 e2) _) (World.ownsRow.alloc HOS4.out _) hown' hgrow
          have hbl : Below w.heap.size w w5 := (N4.out.alloc h4z _).grown hgrow (by simp; omega) (fun k hk => (ho.lt k hk).1)
          go_roundw
          case rel => exact ⟨_, i + 1, rfl, by go_num, by omega, hbl, by rw [HN.out]; exact R⟩
          case measure => simp only [intOf]; omega
    · have e : i = ps.length := by omega
      have HO := Lib.hid (show OwnShps wr w.heap.size v (distB ps) by rw [e, List.take_length] at hown; exact hown)
      clear e hown
      go_wp2
      go_ret
      exact ⟨_, rfl, HO.out, NX.out⟩


end Go.Proofs.Ytlandkindbmbfaa
