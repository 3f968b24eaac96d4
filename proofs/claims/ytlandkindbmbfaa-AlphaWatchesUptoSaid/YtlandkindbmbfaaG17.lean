/-
  Texts of this seat, one behind the other: V13, O11. Conditions: those that each of them states.
-/
import Derived.Test.YtlandkindbmbfaaG16
import Derived.Test.YtlandkindbmbfaaG12
import Derived.Deep.CutRange
import Derived.Test.YtlandkindbmbfaaRows
/-
  The walk of the law AlphaWatches: it returns true and leaves what was in memory. Conditions: the arguments are within the second form's reach.
-/
namespace Go.Proofs.Ytlandkindbmbfaa.Wa
open Go.RowKit Plain
attribute [local go_sem ↓] Go.wp_at_zero Go.wp_at_succ

theorem OpBox.block {w : World} {b : Nat} {kind pred nn : Int} {u : Value} (h : w.heap[b]? = some (.cells #[.int .i64 kind, .int .i64 pred, u, .int .i64 nn] 66 (0, 0))) : OpBox w b kind pred u nn :=
  ⟨by simp only [World.cell?, h]; rfl, by simp only [World.cell?, h]; rfl, by simp only [World.cell?, h]; rfl, by simp only [World.cell?, h]; rfl⟩

set_option maxRecDepth 100000 in
set_option maxHeartbeats 32000000 in
theorem watches_row (v : Value) (ss : List Shp) {w : World} (hv : NetsArg w v ss) (u : Value) (watch : List Int) (hu : IntsAt w w.heap.size u watch) (x : Value) (ops : List OpD) (hx : OpsArg w x ops) (hs20 : ss.length ≤ 1048576) (hw20 : watch.length ≤ 1048576) (ho20 : ops.length ≤ 1048576) :
    Calls Try.prog 10 #[v, u, x] w fun e w' => e = .returned (.bool true) ∧ Below w.heap.size w w' := by
  obtain ⟨hv, hok, hn, hcap⟩ := hv
  obtain ⟨hx, hol, hon⟩ := hx
  obtain ⟨a, ca, rfl, ha⟩ := hv.form
  obtain ⟨ax, cx, rfl, hb⟩ := hx.form
  obtain ⟨au, cu, rfl, _⟩ := id hu
  have HU := Lib.hid hu
  have HX := Lib.hid hx
  have HXF := Lib.hid hb
  have HOK := Lib.hid hok
  have HOL := Lib.hid hol
  have HCAP := Lib.hid hcap
  obtain ⟨W0, hW0⟩ : ∃ W0, W0 = w.alloc (.cells #[.slice a ss.length ca] 22) := ⟨_, rfl⟩
  have hb0 : Below w.heap.size w W0 := by rw [hW0]; exact up_alloc _ _
  have HBS : Hid (W0.heap[w.heap.size]? = some (.cells #[.slice a ss.length ca] 22 (0, 0))) := by rw [hW0]; exact heap_alloc_new _ _
  have hbs0 : w.heap.size < W0.heap.size := by rw [hW0]; simp
  have c0 : W0.cell? ⟨w.heap.size, 0, none⟩ = some (.slice a ss.length ca) := by simp only [World.cell?, HBS.out]; rfl
  have HV := Lib.hid hv
  have N0 := Lib.hid hb0
  have HV0 := Lib.hid ((hv.below hb0).mono hb0.size)
  clear hv hx hu ha hb hok hol hcap hb0 hon
  go_enter Try.func10, Try.ntmps10
  go_wp2_with fail
  rw [← hW0]
  clear hW0
  refine (rnew_any ss _ W0 HV0.out HCAP.out HOK.out hn).mono ?_
  rintro e w1 (⟨hbad, rfl, hb1⟩ | ⟨hgood, X2, sv, rfl, hX2, hbox, hsh, hb1⟩)
  · have HBAD := Lib.hid hbad
    have N1 := Lib.hid (N0.out.trans (hb1.mono N0.out.size))
    have HBS1 := Lib.hid ((hb1.block _ hbs0).trans HBS.out)
    have hbs1 := Nat.lt_of_lt_of_le hbs0 hb1.size
    have c1 : w1.cell? ⟨w.heap.size, 0, none⟩ = some (.slice a ss.length ca) := by simp only [World.cell?, HBS1.out]; rfl
    clear hbad hb1 c0
    go_wp2_with fail
    generalize hy : w1.alloc (.cells #[.pointer none] 57) = y1
    have hb1 : Below w1.heap.size w1 y1 := by rw [← hy]; exact up_alloc _ _
    have HM1 : Hid (y1.heap[w1.heap.size]? = some (.cells #[.pointer none] 57 (0, 0))) := by rw [← hy]; exact heap_alloc_new _ _
    have hml : w1.heap.size < y1.heap.size := by rw [← hy]; simp
    have NY1 := Lib.hid (N1.out.trans (hb1.mono N1.out.size))
    have HVY := Lib.hid ((HV.out.below NY1.out).mono NY1.out.size)
    clear hy hb1 c1
    refine (shapesOf_any ss _ y1 HVY.out HOK.out hn).mono ?_
    rintro e w2 ⟨ov, rfl, hoo, hb2⟩
    obtain ⟨aO, cO, rfl, _⟩ := hoo.at.form
    have HOO := Lib.hid hoo
    have N2 := Lib.hid (NY1.out.trans (hb2.mono NY1.out.size))
    have HM2 := Lib.hid ((hb2.block _ hml).trans HM1.out)
    have hml2 := Nat.lt_of_lt_of_le hml hb2.size
    clear hoo hb2
    go_wp2_with fail
    refine (new_any ss _ w2 HOO.out.at HOO.out.cap HOK.out hn).mono ?_
    rintro e w3 (⟨_, rfl, hb3⟩ | ⟨hgood, _⟩)
    · have N3 := Lib.hid (N2.out.trans (hb3.mono N2.out.size))
      have HM3 := Lib.hid ((hb3.block _ hml2).trans HM2.out)
      have d1 : (w3.alloc (.cells #[.pointer none] 61)).cell? ⟨w1.heap.size, 0, none⟩ = some (.pointer none) := (World.cell?_alloc_past _ _ _ (Nat.lt_of_lt_of_le hml2 hb3.size)).trans (by simp only [World.cell?, HM3.out]; rfl)
      have hb4 := up_alloc w3 (.cells #[.pointer none] 61)
      have N4 := Lib.hid (N3.out.trans (hb4.mono N3.out.size))
      clear hb3 hb4
      go_wp2
      go_ret
      exact ⟨rfl, N4.out⟩
    · rw [HBAD.out] at hgood; cases hgood
  · have HGOOD := Lib.hid hgood
    have N1 := Lib.hid (N0.out.trans (hb1.mono N0.out.size))
    have HBS1 := Lib.hid ((hb1.block _ hbs0).trans HBS.out)
    have hbs1 := Nat.lt_of_lt_of_le hbs0 hb1.size
    have c1 : w1.cell? ⟨w.heap.size, 0, none⟩ = some (.slice a ss.length ca) := by simp only [World.cell?, HBS1.out]; rfl
    have hX2w : w.heap.size ≤ X2 := Nat.le_trans N0.out.size hX2
    have HSH := Lib.hid hsh
    have HBOX := Lib.hid hbox
    have hx2 := lt_of_block hbox
    clear hgood hb1 c0 hsh hbox
    go_wp2_with fail
    generalize hy : w1.alloc (.cells #[.pointer (some ⟨X2, 0, none⟩)] 57) = y1
    have hb1 : Below w1.heap.size w1 y1 := by rw [← hy]; exact up_alloc _ _
    have HM1 : Hid (y1.heap[w1.heap.size]? = some (.cells #[.pointer (some ⟨X2, 0, none⟩)] 57 (0, 0))) := by rw [← hy]; exact heap_alloc_new _ _
    have hml : w1.heap.size < y1.heap.size := by rw [← hy]; simp
    have NY1 := Lib.hid (N1.out.trans (hb1.mono N1.out.size))
    have B1 := Lib.hid hb1
    have HVY := Lib.hid ((HV.out.below NY1.out).mono NY1.out.size)
    clear hy hb1 c1
    refine (shapesOf_any ss _ y1 HVY.out HOK.out hn).mono ?_
    rintro e w2 ⟨ov, rfl, hoo, hb2⟩
    obtain ⟨aO, cO, rfl, _⟩ := hoo.at.form
    have HOO := Lib.hid hoo
    have B2 := Lib.hid (B1.out.trans (hb2.mono B1.out.size))
    have HM2 := Lib.hid ((hb2.block _ hml).trans HM1.out)
    have hml2 := Nat.lt_of_lt_of_le hml hb2.size
    have hz2 := hb2.size
    clear hoo hb2
    go_wp2_with fail
    refine (new_any ss _ w2 HOO.out.at HOO.out.cap HOK.out hn).mono ?_
    rintro e w3 (⟨hbad, _⟩ | ⟨_, G, X, mv, ms, rfl, hnet, hb3, hG0⟩)
    · rw [HGOOD.out] at hbad; cases hbad
    · have B3 := Lib.hid (B2.out.trans (hb3.mono B2.out.size))
      have HM3 := Lib.hid ((hb3.block _ hml2).trans HM2.out)
      have hml3 := Nat.lt_of_lt_of_le hml2 hb3.size
      have HGZ := Lib.hid hG0
      have HNET := Lib.hid hnet
      have HVA := Lib.hid (newB_valid HGOOD.out)
      have c3 : w3.cell? ⟨w1.heap.size, 0, none⟩ = some (.pointer (some ⟨X2, 0, none⟩)) := by simp only [World.cell?, HM3.out]; rfl
      have d3 : (w3.alloc (.cells #[.pointer (some ⟨X, 0, none⟩)] 61)).cell? ⟨w1.heap.size, 0, none⟩ = some (.pointer (some ⟨X2, 0, none⟩)) := (World.cell?_alloc_past _ _ _ hml3).trans c3
      obtain ⟨z0, hz0⟩ : ∃ z, z = w3.alloc (.cells #[.pointer (some ⟨X, 0, none⟩)] 61) := ⟨_, rfl⟩
      obtain ⟨z1, hz1⟩ : ∃ z, z = z0.alloc (.cells #[.slice none 0 0] 69) := ⟨_, rfl⟩
      obtain ⟨z2, hz2'⟩ : ∃ z, z = z1.alloc (.cells #[.bool false] 4) := ⟨_, rfl⟩
      have s0 : z0.heap.size = w3.heap.size + 1 := by rw [hz0]; simp
      have s1 : z1.heap.size = w3.heap.size + 2 := by rw [hz1]; simp; omega
      have s2 : z2.heap.size = w3.heap.size + 3 := by rw [hz2']; simp; omega
      have b01 : Below w3.heap.size w3 z0 := by rw [hz0]; exact up_alloc _ _
      have b12 : Below z0.heap.size z0 z1 := by rw [hz1]; exact up_alloc _ _
      have b23 : Below z1.heap.size z1 z2 := by rw [hz2']; exact up_alloc _ _
      have b13 : Below z0.heap.size z0 z2 := b12.trans (b23.mono b12.size)
      have b03 : Below w3.heap.size w3 z2 := b01.trans (b13.mono b01.size)
      have hn0 : z0.heap[w3.heap.size]? = some (.cells #[.pointer (some ⟨X, 0, none⟩)] 61 (0, 0)) := by rw [hz0]; exact heap_alloc_new _ _
      have hg1 : z1.heap[w3.heap.size + 1]? = some (.cells #[.slice none 0 0] 69 (0, 0)) := by rw [hz1, ← s0]; exact heap_alloc_new _ _
      have hl2 : z2.heap[w3.heap.size + 2]? = some (.cells #[.bool false] 4 (0, 0)) := by rw [hz2', ← s1]; exact heap_alloc_new _ _
      have B4 := B3.out.trans (b03.mono B3.out.size)
      have hB : @Both ⟨WNil⟩ w1 X mv ms ss X2 sv [] [] z2 G (.slice none 0 0) := by
        have hnn := MNet.of_nil (HNET.out.up b03)
        letI : Inhabited WVals := ⟨WNil⟩
        exact ⟨hnn.congr (fun i _ => (lsOf_nil ss i).symm), fun k hk => hG0 k (Nat.lt_of_lt_of_le hk (Nat.le_trans B1.out.size hz2)), hx2, (B4.block X2 hx2).trans HBOX.out, RowsZ.nil _ _ _, ⟨B4.os, B4.tape, B4.output, B4.size, fun k hk _ => B4.block k hk⟩⟩
      have HW0 : Hid (@WS ⟨WNil⟩ w1 X mv ms ss X2 sv ⟨w3.heap.size + 1, w3.heap.size + 2, w3.heap.size, w1.heap.size, w.heap.size, fun _ => 0⟩ 0 (.slice a ss.length ca) [] [] [] z2 G (.slice none 0 0) (.slice none 0 0)) := by
        letI : Inhabited WVals := ⟨WNil⟩
        have hz3 := B3.out.size
        refine ⟨hB, ⟨(b23.block _ (show w3.heap.size + 1 < z1.heap.size by omega)).trans hg1, hl2, (b13.block _ (show w3.heap.size < z0.heap.size by omega)).trans hn0, (b03.block _ hml3).trans HM3.out, (B4.block _ hbs1).trans HBS1.out, fun j hj => by omega⟩, ⟨HNET.out.zero _ (by show w3.heap.size ≤ w3.heap.size + 1; omega), HNET.out.zero _ (by show w3.heap.size ≤ w3.heap.size + 2; omega), HNET.out.zero _ (Nat.le_refl _), hG0 _ hml2, hG0 _ (by show w.heap.size < w2.heap.size; have := B2.out.size; omega), fun j hj => by omega⟩, World.ownsRow_nil _ _ _ _, fun k hk => by simp [Value.ownBlock] at hk, ?_, ?_⟩
        · show w1.heap.size ≤ w3.heap.size + 1; omega
        · show w1.heap.size ≤ w3.heap.size + 2; omega
      have HZ := Lib.hid (And.intro hz0 (And.intro hz1 hz2'))
      obtain ⟨bn, hbn⟩ : ∃ bn, bn = w3.heap.size := ⟨_, rfl⟩
      obtain ⟨bm, hbm⟩ : ∃ bm, bm = w1.heap.size := ⟨_, rfl⟩
      obtain ⟨bs, hbs⟩ : ∃ bs, bs = w.heap.size := ⟨_, rfl⟩
      clear hb3 hG0 hnet hz0 hz1 hz2' s0 s1 s2 b01 b12 b23 b13 b03 hn0 hg1 hl2 B4 hB
      go_wp2
      have hzz : z2 = ((w3.alloc (.cells #[.pointer (some ⟨X, 0, none⟩)] 61)).alloc (.cells #[.slice none 0 0] 69)).alloc (.cells #[.bool false] 4) := by rw [HZ.out.2.2, HZ.out.2.1, HZ.out.1]
      rw [← hzz]
      clear hzz
      go_loopw [13] (fun k wr => ∃ (i : Nat) (I : WVals) (G' : Nat → Nat) (who : Nat → Nat), k = .int .i64 (i : Int) ∧ i ≤ watch.length ∧ Hid (@WS ⟨I⟩ w1 X mv ms ss X2 sv ⟨w3.heap.size + 1, w3.heap.size + 2, w3.heap.size, w1.heap.size, w.heap.size, who⟩ i (.slice a ss.length ca) [] [] [] wr G' (.slice none 0 0) (.slice none 0 0)) ∧ Hid (WDis I ss.length) ∧ Hid (FsTo I ⟨w3.heap.size + 1, w3.heap.size + 2, w3.heap.size, w1.heap.size, w.heap.size, who⟩ watch ss.length i)) (fun k _ => watch.length - (intOf k).toNat)
      case atStart => exact ⟨0, WNil, G, fun _ => 0, rfl, Nat.zero_le _, HW0, Lib.hid (WDis.nil _), Lib.hid (FsTo.start _ _ _)⟩
      case round =>
        obtain ⟨i, I, G', who, rfl, hil, HW, HD, HF⟩ := hrel
        by_cases h1 : i < watch.length
        · have NB : Hid (Below w.heap.size w wr) := by
            letI : Inhabited WVals := ⟨I⟩
            exact N1.out.trans (HW.out.both.exc.below hX2w N1.out.size)
          obtain ⟨gu, ou, rfl, cw⟩ := HU.out.cellAt h1
          have hgw : gu < w.heap.size := World.block_lt_of_cell? w _ cw
          have cu0 := below_cells NB.out hgw cw
          obtain ⟨x, hx⟩ : ∃ x, x = at' watch i := ⟨_, rfl⟩
          rw [← hx] at cu0 cw
          have HXX := Lib.hid hx
          have H1 := Lib.hid HW.out.who
          have hguw : gu < wr.heap.size := World.block_lt_of_cell? wr _ cu0
          have CW := Lib.hid cw
          have i0 : (0 : Int) ≤ (i : Int) := Int.natCast_nonneg _
          have i1 : (i : Int) < (watch.length : Int) := by omega
          obtain ⟨y5, hy5⟩ : ∃ y, y = wr.alloc (.cells #[.int .i64 (i : Int)] 3) := ⟨_, rfl⟩
          rw [← hy5] at H1
          have b5 : Below wr.heap.size wr y5 := by rw [hy5]; exact up_alloc _ _
          have e0 := below_cells b5 hguw cu0
          have e1 : y5.cell? ⟨w3.heap.size, 0, none⟩ = some (.pointer (some ⟨X, 0, none⟩)) := by
            letI : Inhabited WVals := ⟨I⟩
            exact H1.out.cn
          have e2 : y5.cell? ⟨w.heap.size, 0, none⟩ = some (.slice a ss.length ca) := by
            letI : Inhabited WVals := ⟨I⟩
            exact H1.out.cs
          have HIL := Lib.hid hil
          clear hx b5 cu0 cw
          by_cases hxm : 0 ≤ x ∧ x < (ss.length : Int)
          · obtain ⟨m, rfl⟩ := Int.eq_ofNat_of_zero_le hxm.1
            have hm : m < ss.length := by omega
            have HWY : Hid (∀ cs, Calls Try.prog 39 #[.pointer (some ⟨X, 0, none⟩), .int .i64 (m : Int), .func (.func 40) #[] cs] y5.drew (WatchIs I y5.drew G' X mv ms ss (lsOf ss []) 0 m (.func (.func 40) #[] cs))) := fun cs => by
              letI : Inhabited WVals := ⟨I⟩
              exact watch_yes (H1.out.both.drew.net) HD.out hm (Nat.le_trans (HF.out.len hm) (by omega)) 40 cs
            go_upto_region 13 with fail
            rw [← hy5]
            clear hy5
            go_cut [10] from 51 to 57 (fun c wx => c = .int .i64 0 ∧ ∃ (J : WVals) (G6 : Nat → Nat), Hid (@WS ⟨J⟩ w1 X mv ms ss X2 sv (Bx.more ⟨w3.heap.size + 1, w3.heap.size + 2, w3.heap.size, w1.heap.size, w.heap.size, who⟩ i wr.heap.size) (i + 1) (.slice a ss.length ca) [] [] [] wx G6 (.slice none 0 0) (.slice none 0 0)) ∧ Hid (WDis J ss.length) ∧ Hid (FsTo J (Bx.more ⟨w3.heap.size + 1, w3.heap.size + 2, w3.heap.size, w1.heap.size, w.heap.size, who⟩ i wr.heap.size) watch ss.length (i + 1)))
            case first =>
              first | (go_region_law
                (first
                  | (go_simp; go_at_call 39; refine (HWY.out _).mono ?_; rintro e w6 ⟨rfl, hWT⟩; have HWT := Lib.hid hWT; clear hWT))) | fail
              all_goals
                go_wp2_with fail
                go_meet
                case rel =>
                  obtain ⟨v6, G6, hn6, hd6, ht6, hT6⟩ := HWT.out
                  have hcl : Value.func (.func 40) #[] #[.pointer (some ⟨w3.heap.size + 1, 0, none⟩), .pointer (some ⟨wr.heap.size, 0, none⟩), .pointer (some ⟨w3.heap.size + 2, 0, none⟩), .pointer (some ⟨w3.heap.size, 0, none⟩), .pointer (some ⟨w1.heap.size, 0, none⟩), .pointer (some ⟨w.heap.size, 0, none⟩)] = clos (Bx.more ⟨w3.heap.size + 1, w3.heap.size + 2, w3.heap.size, w1.heap.size, w.heap.size, who⟩ i wr.heap.size) i := by
                    unfold clos; simp [Bx.more]
                  rw [hcl] at hn6 hd6
                  refine ⟨rfl, upd I m v6 (clos (Bx.more ⟨w3.heap.size + 1, w3.heap.size + 2, w3.heap.size, w1.heap.size, w.heap.size, who⟩ i wr.heap.size) i), G6, ?_, hd6, HF.out.yes (k := wr.heap.size) (v' := v6) HXX.out.symm⟩
                  refine WS.watched (wr := y5.drew) (I := I) (G := G') ?_ hn6 ht6 hT6
                  letI : Inhabited WVals := ⟨I⟩
                  exact H1.out.up ⟨rfl, rfl, rfl, Nat.le_refl _, fun _ _ => rfl⟩
            case rest =>
              obtain ⟨rfl, J, G6, H6, HD6, HF6⟩ := hcut
              obtain ⟨w6, hw6⟩ : ∃ w6, w6 = wc := ⟨_, rfl⟩
              rw [← hw6] at H6 ⊢
              clear hw6 e0 e1 e2
              have NB6 : Hid (Below w.heap.size w w6) := by
                letI : Inhabited WVals := ⟨J⟩
                exact N1.out.trans (H6.out.both.exc.below hX2w N1.out.size)
              have g0 := below_cells NB6.out hgw CW.out
              have g2 : w6.cell? ⟨w.heap.size, 0, none⟩ = some (.slice a ss.length ca) := by
                letI : Inhabited WVals := ⟨J⟩
                exact H6.out.cs
              have hd1 : decide ((0 : Int) ≤ (m : Int)) = true := decide_eq_true (by omega)
              go_wp2_with fail
              go_quiet (fail)
              generalize hW : w6.drewN _ = w7
              have b67 : Below w6.heap.size w6 w7 := by rw [← hW]; exact ⟨rfl, rfl, rfl, Nat.le_refl _, fun _ _ => rfl⟩
              have H7 : Hid (@WS ⟨J⟩ w1 X mv ms ss X2 sv (Bx.more ⟨w3.heap.size + 1, w3.heap.size + 2, w3.heap.size, w1.heap.size, w.heap.size, who⟩ i wr.heap.size) (i + 1) (.slice a ss.length ca) [] [] [] w7 G6 (.slice none 0 0) (.slice none 0 0)) := by
                letI : Inhabited WVals := ⟨J⟩
                exact H6.out.up b67
              clear hW b67 g0 g2
              go_wp2
              go_roundw
              case rel => exact ⟨i + 1, J, G6, _, by go_num, by omega, H7, HD6, HF6⟩
              case measure => simp only [intOf]; omega
          · have hno : ∀ m : Nat, m < ss.length → at' watch i ≠ (m : Int) := fun m hm e => hxm (by rw [HXX.out, e]; omega)
            have HF6 := Lib.hid (HF.out.no (k := wr.heap.size) hno)
            have HWY : Hid (∀ cs, Calls Try.prog 39 #[.pointer (some ⟨X, 0, none⟩), .int .i64 x, .func (.func 40) #[] cs] y5.drew (fun e w' => e = .returned (.int .i64 2) ∧ y5.drew = w')) := fun cs => by
              letI : Inhabited WVals := ⟨I⟩
              exact watch_no (H1.out.both.drew.net) x _ (decide_eq_false hxm)
            have HLX : Hid (0 ≤ x → decide (x < (ss.length : Int)) = false) := fun h0 => decide_eq_false (fun h2 => hxm ⟨h0, h2⟩)
            clear hxm hno
            go_upto_region 13 with fail
            rw [← hy5]
            clear hy5
            go_cut [10] from 51 to 57 (fun c wx => c = .int .i64 2 ∧ ∃ (J : WVals) (G6 : Nat → Nat), Hid (@WS ⟨J⟩ w1 X mv ms ss X2 sv (Bx.more ⟨w3.heap.size + 1, w3.heap.size + 2, w3.heap.size, w1.heap.size, w.heap.size, who⟩ i wr.heap.size) (i + 1) (.slice a ss.length ca) [] [] [] wx G6 (.slice none 0 0) (.slice none 0 0)) ∧ Hid (WDis J ss.length) ∧ Hid (FsTo J (Bx.more ⟨w3.heap.size + 1, w3.heap.size + 2, w3.heap.size, w1.heap.size, w.heap.size, who⟩ i wr.heap.size) watch ss.length (i + 1)))
            case first =>
              first | (go_region_law
                (first
                  | (go_simp; go_at_call 39; refine (HWY.out _).mono ?_; rintro e w6 ⟨rfl, rfl⟩))) | fail
              all_goals
                go_wp2_with fail
                go_meet
                case rel =>
                  refine ⟨rfl, I, G', ?_, HD, HF6⟩
                  letI : Inhabited WVals := ⟨I⟩
                  exact H1.out.up ⟨rfl, rfl, rfl, Nat.le_refl _, fun _ _ => rfl⟩
            case rest =>
              obtain ⟨rfl, J, G6, H6, HD6, HF6'⟩ := hcut
              obtain ⟨w6, hw6⟩ : ∃ w6, w6 = wc := ⟨_, rfl⟩
              rw [← hw6] at H6 ⊢
              clear hw6 e0 e1 e2 HF6
              have HF6 := HF6'
              have NB6 : Hid (Below w.heap.size w w6) := by
                letI : Inhabited WVals := ⟨J⟩
                exact N1.out.trans (H6.out.both.exc.below hX2w N1.out.size)
              have g0 := below_cells NB6.out hgw CW.out
              have g2 : w6.cell? ⟨w.heap.size, 0, none⟩ = some (.slice a ss.length ca) := by
                letI : Inhabited WVals := ⟨J⟩
                exact H6.out.cs
              by_cases h0 : 0 ≤ x
              · have hd1 : decide (0 ≤ x) = true := decide_eq_true h0
                have hd2 := HLX.out h0
                clear h0 HLX
                go_wp2_with fail
                go_quiet (fail)
                generalize hW : w6.drewN _ = w7
                have b67 : Below w6.heap.size w6 w7 := by rw [← hW]; exact ⟨rfl, rfl, rfl, Nat.le_refl _, fun _ _ => rfl⟩
                have H7 : Hid (@WS ⟨J⟩ w1 X mv ms ss X2 sv (Bx.more ⟨w3.heap.size + 1, w3.heap.size + 2, w3.heap.size, w1.heap.size, w.heap.size, who⟩ i wr.heap.size) (i + 1) (.slice a ss.length ca) [] [] [] w7 G6 (.slice none 0 0) (.slice none 0 0)) := by
                  letI : Inhabited WVals := ⟨J⟩
                  exact H6.out.up b67
                clear hW b67 g0 g2
                go_wp2
                go_roundw
                case rel => exact ⟨i + 1, J, G6, _, by go_num, by omega, H7, HD6, HF6⟩
                case measure => simp only [intOf]; omega
              · have hd1 : decide (0 ≤ x) = false := decide_eq_false h0
                clear h0 HLX
                go_wp2_with fail
                go_quiet (fail)
                generalize hW : w6.drewN _ = w7
                have b67 : Below w6.heap.size w6 w7 := by rw [← hW]; exact ⟨rfl, rfl, rfl, Nat.le_refl _, fun _ _ => rfl⟩
                have H7 : Hid (@WS ⟨J⟩ w1 X mv ms ss X2 sv (Bx.more ⟨w3.heap.size + 1, w3.heap.size + 2, w3.heap.size, w1.heap.size, w.heap.size, who⟩ i wr.heap.size) (i + 1) (.slice a ss.length ca) [] [] [] w7 G6 (.slice none 0 0) (.slice none 0 0)) := by
                  letI : Inhabited WVals := ⟨J⟩
                  exact H6.out.up b67
                clear hW b67 g0 g2
                go_wp2
                go_roundw
                case rel => exact ⟨i + 1, J, G6, _, by go_num, by omega, H7, HD6, HF6⟩
                case measure => simp only [intOf]; omega
        · have e : i = watch.length := by omega
          rw [e] at HW HF
          clear e hil
          letI : Inhabited WVals := ⟨I⟩
          have e1 : wr.cell? ⟨w3.heap.size, 0, none⟩ = some (.pointer (some ⟨X, 0, none⟩)) := HW.out.cn
          have HWN := Lib.hid (watch_nil (I := I) HW.out.both.net 0)
          have HFS := Lib.hid (show ∀ i, i < ss.length → wfOf i = (whos watch (i : Int)).map (clos ⟨w3.heap.size + 1, w3.heap.size + 2, w3.heap.size, w1.heap.size, w.heap.size, who⟩) from HF.out)
          go_wp2_with fail
          refine HWN.out.mono ?_
          rintro e w' ⟨rfl, rfl⟩
          clear e1 HWN
          go_wp2
          go_loopw [15, 16] (fun q k wr => ∃ (wv : Value) (i : Nat) (rs : List Shp) (done : List Cl) (G : Nat → Nat) (rv gv : Value), wv = q ∧ k = .int .i64 (i : Int) ∧ i ≤ ops.length ∧ Hid (WS w1 X mv ms ss X2 sv ⟨w3.heap.size + 1, w3.heap.size + 2, w3.heap.size, w1.heap.size, w.heap.size, who⟩ watch.length (.slice a ss.length ca) rs rs done wr G rv gv) ∧ Hid (OwnCls wr w1.heap.size wv done) ∧ Hid (∀ k, wv.ownBlock = some k → G k = 0 ∧ gv.ownBlock ≠ some k) ∧ rs.length ≤ i ∧ Hid (Short rs) ∧ done.length ≤ i * watch.length) (fun _ k _ => ops.length - (intOf k).toNat)
          case atStart => exact ⟨_, 0, [], [], G', _, _, rfl, rfl, Nat.zero_le _, HW, World.ownsRow_nil _ _ _ _, Lib.hid (fun k hk => by simp [Value.ownBlock] at hk), Nat.zero_le _, Lib.hid (fun r hr => by cases hr), by simp⟩
          case round =>
            obtain ⟨wv, i, rs, done, G2, rv, gv, rfl, rfl, hil, HS, HO, HZ2, hrl, HST, hdl⟩ := hrel
            have NB := Lib.hid (N1.out.trans (HS.out.both.exc.below hX2w N1.out.size))
            have hmul : i * watch.length ≤ 1048576 * 1048576 := Nat.mul_le_mul (by omega) hw20
            by_cases h1 : i < ops.length
            · obtain ⟨s, hs⟩ : ∃ s, ops[i]? = some s := ⟨ops[i]'h1, List.getElem?_eq_getElem h1⟩
              obtain ⟨g, off, rfl⟩ := HXF.out (fun e => by rw [e] at hs; cases hs)
              obtain ⟨hg, ux, c0, c1, c2, c3', hux, hny⟩ := OpsAt.get HX.out hs
              replace c0 := below_cells NB.out hg c0
              replace c1 := below_cells NB.out hg c1
              replace c2 := below_cells NB.out hg c2
              replace c3' := below_cells NB.out hg c3'
              obtain ⟨ar, cr, rfl, hau⟩ := id hux
              have hsl := HOL.out s (List.mem_of_getElem? hs)
              have i0 : (0 : Int) ≤ (i : Int) := Int.natCast_nonneg _
              have i1 : (i : Int) < (ops.length : Int) := by omega
              have HNY := Lib.hid hny
              have HUX := Lib.hid hux
              obtain ⟨kind, pred, row, nn⟩ := s
              simp only at c0 c1 c2 c3' hsl HUX
              obtain ⟨y, hy⟩ : ∃ y, y = wr.alloc (.cells #[.int .i64 kind, .int .i64 pred, .slice ar row.length cr, .int .i64 nn] 66) := ⟨_, rfl⟩
              have by' : Below wr.heap.size wr y := by rw [hy]; exact up_alloc _ _
              have HBK : Hid (y.heap[wr.heap.size]? = some (.cells #[.int .i64 kind, .int .i64 pred, .slice ar row.length cr, .int .i64 nn] 66 (0, 0))) := by rw [hy]; exact heap_alloc_new _ _
              have HXB := Lib.hid (OpBox.block HBK.out)
              have hyl : wr.heap.size < y.heap.size := by rw [hy]; simp
              have HSY := Lib.hid (HS.out.up by')
              have HOY := Lib.hid (show OwnCls y w1.heap.size wv done from row_keep HO.out (fun k hk => by'.block k (World.ownsRow.lt HO.out k hk).2))
              have NBY := Lib.hid (NB.out.trans (by'.mono NB.out.size))
              have q0 := HXB.out.c0
              clear hs hux hny hau hg by'
              have y1 : y.cell? ⟨w3.heap.size, 0, none⟩ = some (.pointer (some ⟨X, 0, none⟩)) := HSY.out.cn
              have y2 : y.cell? ⟨w1.heap.size, 0, none⟩ = some (.pointer (some ⟨X2, 0, none⟩)) := HSY.out.cm
              go_upto_region 23 with fail
              rw [← hy]
              clear hy
              by_cases hk : kind = 1
              · subst hk
                have q1 := HXB.out.c1
                have q2 := HXB.out.c2
                have HRL := Lib.hid (rlen_any HSY.out.both)
                go_wp2_with fail
                refine HRL.out.mono ?_
                rintro e w' ⟨rfl, rfl⟩
                clear HRL
                have HUB := Lib.hid (show watch ≠ [] → ∀ k, (Value.slice au watch.length cu).ownBlock = some k → wv.ownBlock ≠ some k from fun hne k hk e => by
                  have h5 := HU.out.block hne k hk
                  have h6 := (World.ownsRow.lt HO.out k e).1
                  have h7 := N1.out.size
                  omega)
                have HUR := Lib.hid (show row ≠ [] → ∀ k, (Value.slice ar row.length cr).ownBlock = some k → k < w.heap.size from fun hne k hk => HUX.out.block hne k hk)
                by_cases hbad : pred < 0 ∨ negB row = true
                · have HR := Lib.hid (radd_no X2 pred row _ y ((HUX.out.below NBY.out).mono NBY.out.size) (by omega) hbad)
                  have HBAD := Lib.hid hbad
                  clear hbad
                  go_wp2_with fail
                  refine HR.out.mono ?_
                  rintro e w5 ⟨v1, rfl, hv1, hb5⟩
                  obtain ⟨a1, n1, c1', rfl⟩ := hv1.form
                  have H5 := Lib.hid (HSY.out.up hb5)
                  have HO5 := Lib.hid (show OwnCls w5 w1.heap.size wv done from row_keep HOY.out (fun k hk => hb5.block k (World.ownsRow.lt HOY.out k hk).2))
                  have NB5 := Lib.hid (NBY.out.trans (hb5.mono NBY.out.size))
                  have HBK5 := Lib.hid ((hb5.block _ hyl).trans HBK.out)
                  have HTD : Hid (Calls Try.prog 42 #[wv, .slice au watch.length cu, .slice a1 n1 c1', .int .i64 (rs.length : Int)] w5 fun e w' => ∃ v', e = .returned v' ∧ GrwC w1.heap.size wv w5 done v' w') := by
                    have h5 := told_any w1.heap.size done wv watch [] (.slice au watch.length cu) (.slice a1 n1 c1') (rs.length : Int) w5 H5.out.both.exc.size HO5.out ((HU.out.below NB5.out).mono NB5.out.size) hv1.at HUB.out (fun h => absurd rfl h) hw20 (by simp) (by simp; omega)
                    have e5 : done ++ tell watch (rs.length : Int) [] = done := by simp [tell]
                    rw [e5] at h5
                    exact h5
                  have hyl5 := Nat.lt_of_lt_of_le hyl hb5.size
                  clear hb5 hv1 HR y1 y2 q0 q1 q2
                  go_wp2_with fail
                  refine HTD.out.mono ?_
                  rintro e w6 ⟨wv', rfl, hG⟩
                  obtain ⟨h6, hz6⟩ := H5.out.want HO5.out HZ2.out hG
                  have H6 := Lib.hid h6
                  have HZ6 := Lib.hid hz6
                  have HO6 := Lib.hid hG.own
                  have HBK6 := Lib.hid ((hG.block _ hyl5 (not_own HO5.out HBK5.out (by decide))).trans HBK5.out)
                  have NB6 := Lib.hid (N1.out.trans (H6.out.both.exc.below hX2w N1.out.size))
                  have HXB6 := Lib.hid (OpBox.block HBK6.out)
                  have HAN := Lib.hid (add_no (X := X) pred row (.slice ar row.length cr) w6 ((HUX.out.below NB6.out).mono NB6.out.size) (by omega) HBAD.out)
                  have r0 := HXB6.out.c0
                  have r1 := HXB6.out.c1
                  have r2 := HXB6.out.c2
                  have r4 := H6.out.cn
                  clear h6 hz6 hG HTD hyl5
                  go_wp2_with fail
                  refine HAN.out.mono ?_
                  rintro e w7 ⟨v7, rfl, _, hb7⟩
                  have H7 := Lib.hid (H6.out.up hb7)
                  have HO7 := Lib.hid (show OwnCls w7 w1.heap.size wv' done from row_keep HO6.out (fun k hk => hb7.block k (World.ownsRow.lt HO6.out k hk).2))
                  clear hb7 r0 r1 r2 r4 HAN
                  have zl : w7.cell? ⟨w3.heap.size + 1 + 1, 0, none⟩ = some (.bool false) := H7.out.cl
                  have zg : w7.cell? ⟨w3.heap.size + 1, 0, none⟩ = some gv := H7.out.cg
                  have HCL := Lib.hid (calls_same w1.heap.size done gv wv' w7 H7.out.own HO7.out (by omega))
                  go_wp2_with fail
                  refine HCL.out.mono ?_
                  rintro e wt ⟨rfl, hbt⟩
                  have HT := Lib.hid (H7.out.up hbt)
                  have HOT := Lib.hid (show OwnCls wt w1.heap.size wv' done from row_keep HO7.out (fun k hk => hbt.block k (World.ownsRow.lt HO7.out k hk).2))
                  clear hbt zl zg
                  go_wp2
                  go_roundw
                  case rel => exact ⟨wv', i + 1, rs, done, G2, rv, gv, rfl, by go_num, by omega, HT, HOT, HZ6, by omega, HST, by rw [Nat.succ_mul]; omega⟩
                  case measure => simp only [intOf]; omega
                · have hp : 0 ≤ pred := by
                    rcases Int.lt_or_le pred 0 with h5 | h5
                    · exact absurd (.inl h5) hbad
                    · exact h5
                  have hng : negB row = false := by
                    cases h5 : negB row with
                    | false => rfl
                    | true => exact absurd (.inr h5) hbad
                  have HNG := Lib.hid hng
                  have HRA := Lib.hid (radd_yes HSY.out.both HSH.out HOK.out hn (by omega) pred row (.slice ar row.length cr) ((HUX.out.below NBY.out).mono NBY.out.size) HNY.out (fun hne k hk => by
                    have h5 := HUR.out hne k hk
                    obtain ⟨vs, _, ho, _⟩ := HSY.out.both.rows
                    have h7 := N1.out.size
                    exact ⟨by omega, fun e => by have := (World.ownsRow.lt ho k e).1; omega⟩) (by omega) hp hng)
                  clear hbad hng
                  go_wp2_with fail
                  refine HRA.out.mono ?_
                  rintro e w5 ⟨v1, rv', rfl, hB5, hC5, hv1⟩
                  obtain ⟨a1, n1, c1', rfl⟩ := hv1.form
                  have H5 := Lib.hid (HSY.out.keep hB5 (fun k hk _ h1 h2 => hC5.block k hk h1 h2) (fun _ _ => rfl))
                  have HO5 := Lib.hid (HSY.out.keepW HOY.out HZ2.out (fun k hk _ h1 h2 => hC5.block k hk h1 h2))
                  have HBK5 := Lib.hid ((hC5.block wr.heap.size hyl (by have := HS.out.both.x2lt; omega) (by
                    obtain ⟨vs, _, ho, _⟩ := HSY.out.both.rows
                    exact not_own ho HBK.out (by decide))).trans HBK.out)
                  have NB5 := Lib.hid (N1.out.trans (H5.out.both.exc.below hX2w N1.out.size))
                  have htl : (took ss ⟨pred, row⟩).length ≤ 1048576 := Nat.le_trans (idx_length _) hs20
                  have htm : (took ss ⟨pred, row⟩).length * watch.length ≤ 1048576 * 1048576 := Nat.mul_le_mul htl hw20
                  have htn : (tell watch (rs.length : Int) (took ss ⟨pred, row⟩)).length ≤ watch.length := tell_once _ _ (idxFrom_nodup _ _)
                  have HTD := Lib.hid (told_any w1.heap.size done wv watch (took ss ⟨pred, row⟩) (.slice au watch.length cu) (.slice a1 n1 c1') (rs.length : Int) w5 H5.out.both.exc.size HO5.out ((HU.out.below NB5.out).mono NB5.out.size) hv1.at HUB.out (fun _ k hk e => by
                    rcases types_apart hv1 HO5.out (by decide) with h7 | h7
                    · rw [h7] at hk; cases hk
                    · exact h7 (hk.trans e.symm)) hw20 htl (by omega))
                  have hyl5 := Nat.lt_of_lt_of_le hyl hC5.size
                  obtain ⟨done2, hdone2⟩ : ∃ d, d = done ++ tell watch (rs.length : Int) (took ss ⟨pred, row⟩) := ⟨_, rfl⟩
                  rw [← hdone2] at HTD
                  have hdl2 : done2.length ≤ i * watch.length + watch.length := by rw [hdone2, List.length_append]; omega
                  have HD2 := Lib.hid hdone2
                  clear hB5 hC5 hv1 HRA y1 y2 q0 q1 q2 htm htn hdone2
                  go_wp2_with fail
                  refine HTD.out.mono ?_
                  rintro e w6 ⟨wv', rfl, hG⟩
                  obtain ⟨h6, hz6⟩ := H5.out.want HO5.out HZ2.out hG
                  have H6 := Lib.hid h6
                  have HZ6 := Lib.hid hz6
                  have HO6 := Lib.hid hG.own
                  have HBK6 := Lib.hid ((hG.block _ hyl5 (not_own HO5.out HBK5.out (by decide))).trans HBK5.out)
                  have NB6 := Lib.hid (N1.out.trans (H6.out.both.exc.below hX2w N1.out.size))
                  have HXB6 := Lib.hid (OpBox.block HBK6.out)
                  have HS6 := Lib.hid (HST.out.snoc (r := ⟨pred, row⟩) (by simpa using hsl))
                  have HAW := Lib.hid (add_watch hn H6.out HSH.out HOK.out HVA.out (by omega) HS6.out HFS.out (by omega) (.slice ar row.length cr) ((HUX.out.below NB6.out).mono NB6.out.size) (fun hne k hk => by
                    have h5 := HUR.out hne k hk
                    have h7 := N1.out.size
                    rw [H6.out.both.zero k (by omega)]; decide) (by omega) hp HNG.out)
                  have r0 := HXB6.out.c0
                  have r1 := HXB6.out.c1
                  have r2 := HXB6.out.c2
                  have r4 := H6.out.cn
                  clear h6 hz6 hG HTD hyl5 hp
                  go_wp2_with fail
                  refine HAW.out.mono ?_
                  rintro e w7 ⟨⟨v7, rfl⟩, G7, gv7, h7, ht7, hA7⟩
                  obtain ⟨ho7, hz7⟩ := H6.out.addW HO6.out HZ6.out hA7 ht7
                  rw [← HD2.out] at h7
                  have H7 := Lib.hid h7
                  have HO7 := Lib.hid ho7
                  have HZ7 := Lib.hid hz7
                  clear h7 ht7 hA7 ho7 hz7 r0 r1 r2 r4 HAW
                  have zl : w7.cell? ⟨w3.heap.size + 1 + 1, 0, none⟩ = some (.bool false) := H7.out.cl
                  have zg : w7.cell? ⟨w3.heap.size + 1, 0, none⟩ = some gv7 := H7.out.cg
                  have HCL := Lib.hid (calls_same w1.heap.size done2 gv7 wv' w7 H7.out.own HO7.out (by omega))
                  go_wp2_with fail
                  refine HCL.out.mono ?_
                  rintro e wt ⟨rfl, hbt⟩
                  have HT := Lib.hid (H7.out.up hbt)
                  have HOT := Lib.hid (show OwnCls wt w1.heap.size wv' done2 from row_keep HO7.out (fun k hk => hbt.block k (World.ownsRow.lt HO7.out k hk).2))
                  clear hbt zl zg
                  go_wp2
                  go_roundw
                  case rel => exact ⟨wv', i + 1, rs ++ [⟨pred, row⟩], done2, G7, rv', gv7, rfl, by go_num, by omega, HT, HOT, HZ7, by rw [List.length_append, List.length_singleton]; omega, HS6, by rw [Nat.succ_mul]; omega⟩
                  case measure => simp only [intOf]; omega
              · have ek : (kind == 1) = false := by simpa using hk
                have q1 := HXB.out.c1
                have q2 := HXB.out.c2
                have q3 := HXB.out.c3
                have HSE := Lib.hid (step_else HSY.out.both HSH.out HOK.out hn (by omega) HST.out kind pred (.slice ar row.length cr) nn hk)
                clear hk
                go_wp2_with fail
                refine HSE.out.mono ?_
                rintro e w5 ⟨rfl, rs', rv', hB5, hl5, hs5, hT5⟩
                have H5 := Lib.hid (HSY.out.trn hB5 hT5)
                have HO5 := Lib.hid (HSY.out.keepW HOY.out HZ2.out (fun k hk h0 h1 h2 => hT5.block k hk (by omega) h1 h2))
                have HS5 := Lib.hid hs5
                clear hB5 hT5 hs5 q0 q1 q2 q3 y1 y2 HSE
                have zl : w5.cell? ⟨w3.heap.size + 1 + 1, 0, none⟩ = some (.bool false) := H5.out.cl
                have zg : w5.cell? ⟨w3.heap.size + 1, 0, none⟩ = some gv := H5.out.cg
                have HCL := Lib.hid (calls_same w1.heap.size done gv wv w5 H5.out.own HO5.out (by omega))
                go_wp2_with fail
                refine HCL.out.mono ?_
                rintro e wt ⟨rfl, hbt⟩
                have HT := Lib.hid (H5.out.up hbt)
                have HOT := Lib.hid (show OwnCls wt w1.heap.size wv done from row_keep HO5.out (fun k hk => hbt.block k (World.ownsRow.lt HO5.out k hk).2))
                clear hbt zl zg
                go_wp2
                go_roundw
                case rel => exact ⟨wv, i + 1, rs', done, G2, rv', gv, rfl, by go_num, by omega, HT, HOT, HZ2, by omega, HS5, by rw [Nat.succ_mul]; omega⟩
                case measure => simp only [intOf]; omega
            · have HSD := Lib.hid (HS.out.up (show Below wr.heap.size wr wr.drew from ⟨rfl, rfl, rfl, Nat.le_refl _, fun _ _ => rfl⟩))
              have HL := Lib.hid HSD.out.both.len
              have HR := Lib.hid (rlen_any HSD.out.both)
              have NF := Lib.hid (N1.out.trans (HSD.out.both.exc.below hX2w N1.out.size))
              have y1 : wr.cell? ⟨w3.heap.size, 0, none⟩ = some (.pointer (some ⟨X, 0, none⟩)) := HS.out.cn
              have y2 : wr.cell? ⟨w1.heap.size, 0, none⟩ = some (.pointer (some ⟨X2, 0, none⟩)) := HS.out.cm
              go_wp2_with fail
              go_region_held3 (fun w' => w'.cell? ⟨w3.heap.size, 0, none⟩ = some (.pointer (some ⟨X, 0, none⟩)) ∧ w'.cell? ⟨w1.heap.size, 0, none⟩ = some (.pointer (some ⟨X2, 0, none⟩)))
                (first | exact ⟨y1, y2⟩)
                (first
                  | (go_at_call 37; refine HL.out.mono ?_; rintro e w5 ⟨rfl, rfl⟩)
                  | (go_at_call 38; refine HR.out.mono ?_; rintro e w5 ⟨rfl, rfl⟩))
              go_wp2
              go_ret
              exact ⟨ret_bool (by simp), NF.out⟩

end Go.Proofs.Ytlandkindbmbfaa.Wa
/-
  Opening of the arguments of AlphaWatches: the lengths under the second form's bound; its walk. No condition.
-/
namespace Go.Proofs.Ytlandkindbmbfaa
open Go.RowKit Plain Go.ChangeShapes Go.WideShapes Go.ChangeAt Go.Deep Go.Joins

theorem bulk_one {H : Type} (d : DataW H) : 1 ≤ Rows.uptoBulk d := by
  cases d with
  | lit l => cases l <;> simp [Rows.uptoBulk]
  | nil => simp [Rows.uptoBulk]
  | ptr d => simp [Rows.uptoBulk]
  | slice elems spare => simp [Rows.uptoBulk]
  | agg parts => simp [Rows.uptoBulk]
  | iface t d => simp [Rows.uptoBulk]
  | map entries => simp [Rows.uptoBulk]
  | held h => simp [Rows.uptoBulk]
theorem bulk_length {H : Type} (l : List (DataW H)) : l.length ≤ Rows.uptoBulkAll l := by
  induction l with
  | nil => simp [Rows.uptoBulkAll]
  | cons x r ih => have := bulk_one x; simp only [Rows.uptoBulkAll, List.length_cons]; omega
theorem bulk_slice {H : Type} (elems spare : List (DataW H)) : elems.length ≤ Rows.uptoBulk (.slice elems spare) := by
  have h1 := bulk_length elems
  simp only [Rows.uptoBulk]
  omega
set_option maxRecDepth 100000 in
theorem slice_bulk {H : Type} {enc : TypeId × Value → H} {W : World} {base : Nat} {t e : TypeId} {v : Value} {d : DataW H} {p : List MemPlace} (ht : Try.prog.underlying t = some (.slice e)) (hval : Value.okWide Try.prog W .any base t v)
    (h : DataW.Trod enc Try.prog W 0 (fun _ => true) true t v d p) : ∃ a len cap, v = .slice a len cap ∧ len ≤ Rows.uptoBulk d := by
  obtain ⟨a0, len, cap, rfl⟩ := okWide_slice ht hval
  obtain ⟨fuel, hf⟩ := h
  rcases open_slice ht hf with ⟨hcs, _⟩ | ⟨x, n, c, m, k, D, Pl, hcs, _, hl, hm, hmm, hx, hcell⟩
  · simp [Value.cells] at hcs
    obtain ⟨rfl, rfl, rfl⟩ := hcs
    exact ⟨_, _, _, rfl, Nat.zero_le _⟩
  · simp [Value.cells] at hcs
    obtain ⟨rfl, rfl, rfl⟩ := hcs
    simp only [Prod.mk.injEq] at hx
    refine ⟨_, _, _, rfl, ?_⟩
    rw [hx.1]
    refine Nat.le_trans ?_ (bulk_slice _ _)
    simp
set_option maxRecDepth 100000 in
theorem open_watch {H : Type} {enc : TypeId × Value → H} {W : World} {base : Nat} {v : Value} {d : DataW H} {p : List MemPlace} (hval : Value.okWide Try.prog W .any base 25 v)
    (h : DataW.Trod enc Try.prog W 0 (fun _ => true) true 25 v d p) (hsz : ∀ n ∈ d.weights Try.prog 25, n ≤ reachBytes) : ∃ l, IntsAt W W.heap.size v l := by
  obtain ⟨a0, len, cap, rfl⟩ := okWide_slice Try.underlying25 hval
  obtain ⟨fuel, hf⟩ := h
  obtain ⟨u, l, hu, h1, _⟩ := open_intlist hf hsz
  simp [Value.cells] at hu
  subst hu
  exact ⟨l, h1⟩

theorem watches_at {W : World} {v0 v1 v2 : Value} {ss : List Shp} {watch : List Int} {ops : List OpD} (b0 : NetsArg W v0 ss) (b1 : IntsAt W W.heap.size v1 watch) (b2 : OpsArg W v2 ops)
    (l0 : ∃ a len cap, v0 = .slice a len cap ∧ len ≤ 1048576) (l1 : ∃ a len cap, v1 = .slice a len cap ∧ len ≤ 1048576) (l2 : ∃ a len cap, v2 = .slice a len cap ∧ len ≤ 1048576) :
    Calls Try.prog 10 #[v0, v1, v2] W fun e w' => e = .returned (.bool true) ∧ Below W.heap.size W w' := by
  refine Wa.watches_row v0 ss b0 v1 watch b1 v2 ops b2 ?_ ?_ ?_
  · obtain ⟨a, len, cap, rfl, h⟩ := l0
    obtain ⟨a', c', e, _⟩ := b0.1.form
    simp only [Value.slice.injEq] at e; omega
  · obtain ⟨a, len, cap, rfl, h⟩ := l1
    obtain ⟨a', c', e, _⟩ := b1
    simp only [Value.slice.injEq] at e; omega
  · obtain ⟨a, len, cap, rfl, h⟩ := l2
    obtain ⟨a', c', e, _⟩ := b2.1.form
    simp only [Value.slice.injEq] at e; omega

end Go.Proofs.Ytlandkindbmbfaa
