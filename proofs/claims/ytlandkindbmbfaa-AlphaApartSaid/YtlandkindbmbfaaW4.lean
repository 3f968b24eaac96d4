/-
  The walks of edictref10.Fits and alpha.Covers: each answers the plain law. Conditions: the numbers are ints, the lists fewer than 2^45.
-/
import Derived.Test.YtlandkindbmbfaaW3
namespace Go.Proofs.Ytlandkindbmbfaa
open Go.RowKit Plain

theorem IntsAt.cells {w : World} {B : Nat} {a : Option Addr} {c : Nat} {l : List Int} (h : l = [] ∨ ∃ g off, a = some ⟨g, off, none⟩ ∧ g < B ∧ ∀ j, j < l.length → w.cell? ⟨g, off + j, none⟩ = some (.int .i64 (at' l j))) : IntsAt w B (.slice a l.length c) l := ⟨a, c, rfl, h⟩

set_option maxRecDepth 100000 in
set_option maxHeartbeats 1600000 in
theorem refFits_any (s : Shp) (x : Value) (p : Int) (row : List Int) (u : Value) (w : World) (hx : ShpAt w w.heap.size x s) (hs : Okay s) (hu : IntsAt w w.heap.size u row) (hr : row.length ≤ 35184372088832) :
    Calls Try.prog 20 #[x, .int .i64 p, u] w (BoolIs w (fitsB s p row)) := by
  obtain ⟨V, hV⟩ : ∃ V, V = fitsB s p row := ⟨_, rfl⟩
  rw [← hV]
  have HV := Lib.hid hV
  clear hV
  obtain ⟨v, rfl, hv⟩ := hx
  obtain ⟨b, cb, rfl, hb⟩ := hu
  have HU := Lib.hid hb
  obtain ⟨a, ca, rfl, ha⟩ := hv
  have HA := Lib.hid ha
  have hsl := hs.len
  have HC := Lib.hid (refValid_any s (.slice a s.cells.length ca) (w.alloc (.cells #[.int .i64 s.pred, .slice a s.cells.length ca] 27)) (((IntsAt.cells ha).alloc (Nat.le_refl _) _).mono (by simp)) hs.ints hsl)
  clear ha hb
  go_enter Try.func20, Try.ntmps20
  go_wp2_with fail
  refine HC.out.mono ?_
  rintro e w1 ⟨rfl, hb1⟩
  have hz1 : w.heap.size + 1 ≤ w1.heap.size := by simpa using hb1.size
  have c0 : w1.cell? ⟨w.heap.size, 0, none⟩ = some (.int .i64 s.pred) := below_cells hb1 (by simp) (by simp)
  have c1 : w1.cell? ⟨w.heap.size, 1, none⟩ = some (.slice a s.cells.length ca) := below_cells hb1 (by simp) (by simp)
  have hb2 : Below w.heap.size w w1 := ((Below.refl _ _).alloc (Nat.le_refl _) _).trans (hb1.mono (by simp))
  have HB := Lib.hid hb2
  clear hb1 hb2 HC
  by_cases hva : validB s = true
  · by_cases hp : p = s.pred
    · by_cases hl : row.length = s.cells.length
      · have hpn : (p != s.pred) = false := by simp [hp]
        have hln : ((s.cells.length : Int) != (s.cells.length : Int)) = false := by simp
        have HL := Lib.hid hl
        have HVA := Lib.hid hva
        have HP := Lib.hid hp
        rw [hl, hva]
        rw [hl] at hr
        clear hl hva hp
        go_wp2
        clear hpn hln
        go_loop [7] (fun k => ∃ i : Nat, k = .int .i64 (i : Int) ∧ i ≤ s.cells.length ∧ Hid (AllTo (fitAt s.cells row) i)) (fun k => s.cells.length - (intOf k).toNat)
        case atStart => exact ⟨0, rfl, Nat.zero_le _, AllTo.start _⟩
        case round =>
          obtain ⟨i, rfl, hil, hE⟩ := hrel
          by_cases h1 : i < s.cells.length
          · obtain ⟨g, off, rfl, hg, hc⟩ := HA.out.resolve_left (fun e => by rw [e] at h1; simp at h1)
            obtain ⟨g2, off2, rfl, hg2, hd⟩ := HU.out.resolve_left (fun e => by rw [← HL.out, e] at h1; simp at h1)
            obtain ⟨x, hx⟩ : ∃ x, x = at' s.cells i := ⟨_, rfl⟩
            obtain ⟨y, hy⟩ : ∃ y, y = at' row i := ⟨_, rfl⟩
            have hA : w1.cell? ⟨g, off + i, none⟩ = some (.int .i64 x) := by
              rw [hx]; exact below_cells HB.out (by simpa using hg) (hc i h1)
            have hB : w1.cell? ⟨g2, off2 + i, none⟩ = some (.int .i64 y) := by
              rw [hy]; exact below_cells HB.out (by simpa using hg2) (hd i (by rw [HL.out]; exact h1))
            have hxb : -9223372036854775808 ≤ x ∧ x ≤ 9223372036854775807 := by rw [hx]; exact hs.ints i
            by_cases h2 : x < 0
            · obtain ⟨j, hj⟩ : ∃ j : Nat, -1 - x = (j : Int) := ⟨(-1 - x).toNat, by omega⟩
              have hji : j ≤ i := by
                obtain ⟨k, hk, hki, _⟩ := valid_cell HVA.out h1 (by rw [← hx]; exact h2)
                rw [← hx] at hk; omega
              obtain ⟨z, hz⟩ : ∃ z, z = at' row j := ⟨_, rfl⟩
              have hC : w1.cell? ⟨g2, off2 + j, none⟩ = some (.int .i64 z) := by
                rw [hz]; exact below_cells HB.out (by simpa using hg2) (hd j (by rw [HL.out]; omega))
              have hjl : j < s.cells.length := by omega
              clear hc hd hg hg2 HA HU hs
              by_cases he : y = z
              · have HE := Lib.hid (hE.out.round (by rw [fitAt_neg hx hy h2 hj hz, he]; simp))
                have hb : (z != z) = false := by simp
                subst he
                clear hx hy hz hE
                go_wp2
                go_round
                case rel => exact ⟨i + 1, by go_num, by omega, HE.out⟩
                case measure => simp only [intOf]; omega
              · have hb : (y != z) = true := by simpa using he
                have HR := Lib.hid (show V = false by rw [HV.out]; exact fitsB_bad (by rw [HL.out]; exact h1) (by rw [fitAt_neg hx hy h2 hj hz]; simpa using he))
                clear hx hy hz hE he HV
                go_wp2
                go_ret
                exact ⟨ret_bool HR.out.symm, HB.out⟩
            · clear hc hd hg hg2 HA HU hs
              by_cases he : y = x
              · have HE := Lib.hid (hE.out.round (by rw [fitAt_pos hx hy (by omega), he]; simp))
                have hb : (x != x) = false := by simp
                subst he
                clear hx hy hE
                go_wp2
                go_round
                case rel => exact ⟨i + 1, by go_num, by omega, HE.out⟩
                case measure => simp only [intOf]; omega
              · have hb : (y != x) = true := by simpa using he
                have HR := Lib.hid (show V = false by rw [HV.out]; exact fitsB_bad (by rw [HL.out]; exact h1) (by rw [fitAt_pos hx hy (by omega)]; simpa using he))
                clear hx hy hE he HV
                go_wp2
                go_ret
                exact ⟨ret_bool HR.out.symm, HB.out⟩
          · have e : i = s.cells.length := by omega
            have HR := Lib.hid (show V = true by rw [HV.out]; exact fitsB_true HVA.out HP.out HL.out (by rw [HL.out, ← e]; exact hE.out))
            clear e
            go_wp2
            go_ret
            exact ⟨ret_bool HR.out.symm, HB.out⟩
      · have hpn : (p != s.pred) = false := by simp [hp]
        have hln : ((row.length : Int) != (s.cells.length : Int)) = true := by simp; omega
        have HR := Lib.hid (show V = false by rw [HV.out]; exact fitsB_len hl)
        rw [hva]
        clear hp hl HV hva
        go_wp2
        go_ret
        exact ⟨ret_bool HR.out.symm, HB.out⟩
    · have hpn : (p != s.pred) = true := by simpa using hp
      have HR := Lib.hid (show V = false by rw [HV.out]; exact fitsB_pred hp)
      rw [hva]
      clear hp HV hva
      go_wp2
      go_ret
      exact ⟨ret_bool HR.out.symm, HB.out⟩
  · have hva' : validB s = false := by simpa using hva
    have HR := Lib.hid (show V = false by rw [HV.out]; exact fitsB_invalid hva')
    rw [hva']
    clear hva hva' HV
    go_wp2
    go_ret
    exact ⟨ret_bool HR.out.symm, HB.out⟩

theorem free_any (n : Int) (hn : 0 ≤ n ∧ n ≤ 9223372036854775807) (w : World) : Calls Try.prog 51 #[.int .i64 n] w fun e w' => e = .returned (.int .i64 (-1 - n)) ∧ w = w' := by
  go_enter Try.func51, Try.ntmps51
  go_wp2
  go_ret
  exact ⟨rfl, rfl⟩

set_option maxRecDepth 100000 in
set_option maxHeartbeats 3200000 in
theorem covers_any (s t : Shp) (x y : Value) (w : World) (hx : ShpAt w w.heap.size x s) (hy : ShpAt w w.heap.size y t) (hs : Okay s) (ht : Okay t) :
    Calls Try.prog 14 #[x, y] w (BoolIs w (coversB s t)) := by
  obtain ⟨V, hV⟩ : ∃ V, V = coversB s t := ⟨_, rfl⟩
  rw [← hV]
  have HV := Lib.hid hV
  clear hV
  obtain ⟨v, rfl, hv⟩ := hx
  obtain ⟨u, rfl, hu⟩ := hy
  obtain ⟨a, ca, rfl, ha⟩ := hv
  obtain ⟨b, cb, rfl, hb⟩ := hu
  have HA := Lib.hid ha
  have HU := Lib.hid hb
  have hsl := hs.len
  have htl := ht.len
  obtain ⟨W0, hW0⟩ : ∃ W0, W0 = (w.alloc (.cells #[.int .i64 s.pred, .slice a s.cells.length ca] 27)).alloc (.cells #[.int .i64 t.pred, .slice b t.cells.length cb] 27) := ⟨_, rfl⟩
  have hz0 : W0.heap.size = w.heap.size + 2 := by rw [hW0]; simp
  have hb0 : Below w.heap.size w W0 := by rw [hW0]; exact ((Below.refl _ _).alloc (Nat.le_refl _) _).alloc (by simp) _
  have cx0 : W0.cell? ⟨w.heap.size, 0, none⟩ = some (.int .i64 s.pred) := by rw [hW0]; simp
  have cy0 : W0.cell? ⟨w.heap.size + 1, 0, none⟩ = some (.int .i64 t.pred) := by rw [hW0]; simp
  have cx : W0.cell? ⟨w.heap.size, 1, none⟩ = some (.slice a s.cells.length ca) := by rw [hW0]; simp
  have cy : W0.cell? ⟨w.heap.size + 1, 1, none⟩ = some (.slice b t.cells.length cb) := by rw [hW0]; simp
  have HB0 := Lib.hid hb0
  have HX0 := Lib.hid cx0
  have HY0 := Lib.hid cy0
  have HX := Lib.hid cx
  have HY := Lib.hid cy
  have HC := Lib.hid (valid_any s (.slice a s.cells.length ca) W0 (((IntsAt.cells ha).below hb0).mono (by omega)) hs.ints hsl)
  have HD : Hid (∀ w1, Below W0.heap.size W0 w1 → Calls Try.prog 17 #[.agg #[.int .i64 t.pred, .slice b t.cells.length cb]] w1 (BoolIs w1 (validB t))) :=
    fun w1 h1 => valid_any t (.slice b t.cells.length cb) w1 ((((IntsAt.cells hb).below hb0).below (h1.mono (by omega))).mono (by have := h1.size; omega)) ht.ints htl
  clear ha hb hb0 cx cy cx0 cy0
  go_enter Try.func14, Try.ntmps14
  go_wp2_with fail
  rw [← hW0]
  clear hW0
  refine HC.out.mono ?_
  rintro e w1 ⟨rfl, hb1⟩
  have N1 := Lib.hid hb1
  clear hb1 HC
  by_cases hva : validB s = true
  · have HVA := Lib.hid hva
    rw [hva]
    clear hva
    have cy0 : w1.cell? ⟨w.heap.size + 1, 0, none⟩ = some (.int .i64 t.pred) := below_cells N1.out (by simp; omega) HY0.out
    have cy : w1.cell? ⟨w.heap.size + 1, 1, none⟩ = some (.slice b t.cells.length cb) := below_cells N1.out (by simp; omega) HY.out
    go_wp2_with fail
    refine (HD.out w1 N1.out).mono ?_
    rintro e w2 ⟨rfl, hb2⟩
    clear cy0 cy
    have N2 := Lib.hid (N1.out.trans (hb2.mono N1.out.size))
    clear N1 hb2 HD
    have cx0 : w2.cell? ⟨w.heap.size, 0, none⟩ = some (.int .i64 s.pred) := below_cells N2.out (by simp; omega) HX0.out
    have cx : w2.cell? ⟨w.heap.size, 1, none⟩ = some (.slice a s.cells.length ca) := below_cells N2.out (by simp; omega) HX.out
    have cy0 : w2.cell? ⟨w.heap.size + 1, 0, none⟩ = some (.int .i64 t.pred) := below_cells N2.out (by simp; omega) HY0.out
    have cy : w2.cell? ⟨w.heap.size + 1, 1, none⟩ = some (.slice b t.cells.length cb) := below_cells N2.out (by simp; omega) HY.out
    by_cases hvb : validB t = true
    · have HVB := Lib.hid hvb
      rw [hvb]
      clear hvb
      by_cases hp : s.pred = t.pred
      · by_cases hl : s.cells.length = t.cells.length
        · have hpn : (s.pred != t.pred) = false := by simp [hp]
          have hln : ((s.cells.length : Int) != (s.cells.length : Int)) = false := by simp
          have HL := Lib.hid hl
          have HP := Lib.hid hp
          rw [← hl] at htl cy
          have HX := Lib.hid cx
          have HY := Lib.hid cy
          clear hl hp
          go_wp2
          clear hpn hln
          clear cx cx0 cy cy0
          go_loopw [34] (fun k wr => ∃ i : Nat, k = .int .i64 (i : Int) ∧ i ≤ s.cells.length ∧ Below (w.heap.size + 2) w2 wr ∧ Hid (AllTo (covAt s.cells t.cells) i)) (fun k _ => s.cells.length - (intOf k).toNat)
          case atStart => exact ⟨0, rfl, Nat.zero_le _, Below.refl _ _, AllTo.start _⟩
          case round =>
            obtain ⟨i, rfl, hil, hnx, hE⟩ := hrel
            have NX := Lib.hid hnx
            have hcy := below_cells hnx (p := ⟨w.heap.size + 1, 1, none⟩) (by simp) HY.out
            clear hnx
            by_cases h1 : i < s.cells.length
            · obtain ⟨g, off, rfl, hg, hc⟩ := HA.out.resolve_left (fun e => by rw [e] at h1; simp at h1)
              obtain ⟨g2, off2, rfl, hg2, hd⟩ := HU.out.resolve_left (fun e => by rw [HL.out, e] at h1; simp at h1)
              obtain ⟨x, hx⟩ : ∃ x, x = at' s.cells i := ⟨_, rfl⟩
              obtain ⟨y, hy⟩ : ∃ y, y = at' t.cells i := ⟨_, rfl⟩
              have hA : wr.cell? ⟨g, off + i, none⟩ = some (.int .i64 x) := by
                rw [hx]; exact below_cells (((HB0.out.trans (N2.out.mono (by omega))).trans (NX.out.mono (by omega)))) (by simpa using hg) (hc i h1)
              have hB : wr.cell? ⟨g2, off2 + i, none⟩ = some (.int .i64 y) := by
                rw [hy]; exact below_cells (((HB0.out.trans (N2.out.mono (by omega))).trans (NX.out.mono (by omega)))) (by simpa using hg2) (hd i (by rw [← HL.out]; exact h1))
              have hxb : -9223372036854775808 ≤ x ∧ x ≤ 9223372036854775807 := by rw [hx]; exact hs.ints i
              by_cases h2 : 0 ≤ x
              · clear hc hd hg hg2 HA HU hs ht
                by_cases he : y = x
                · have HE := Lib.hid (hE.out.round (by rw [covAt_pos hx hy h2, he]; simp))
                  have hb : (x != x) = false := by simp
                  subst he
                  clear hx hy hE
                  go_wp2
                  go_roundw
                  case rel => exact ⟨i + 1, by go_num, by omega, NX.out, HE.out⟩
                  case measure => simp only [intOf]; omega
                · have hb : (y != x) = true := by simpa using he
                  have HR := Lib.hid (show V = false by rw [HV.out]; exact coversB_bad h1 (by rw [covAt_pos hx hy h2]; simpa using he))
                  clear hx hy hE he HV
                  go_wp2
                  go_ret
                  exact ⟨ret_bool HR.out.symm, HB0.out.trans ((N2.out.mono (by omega)).trans (NX.out.mono (by omega)))⟩
              · obtain ⟨j, hj⟩ : ∃ j : Nat, -1 - x = (j : Int) := ⟨(-1 - x).toNat, by omega⟩
                have hji : j ≤ i := by
                  obtain ⟨k, hk, hki, _⟩ := valid_cell HVA.out h1 (by rw [← hx]; omega)
                  rw [← hx] at hk; omega
                obtain ⟨z, hz⟩ : ∃ z, z = at' t.cells j := ⟨_, rfl⟩
                have hC : wr.cell? ⟨g2, off2 + j, none⟩ = some (.int .i64 z) := by
                  rw [hz]; exact below_cells (((HB0.out.trans (N2.out.mono (by omega))).trans (NX.out.mono (by omega)))) (by simpa using hg2) (hd j (by rw [← HL.out]; omega))
                have hjl : j < s.cells.length := by omega
                clear hc hd hg hg2 HA HU hs ht
                by_cases h3 : j = i
                · have HE := Lib.hid (hE.out.round (by rw [covAt_neg hx hy (by omega) hj hz, hy, hz, h3]; simp))
                  have hb : (x != -1 - (i : Int)) = false := by simp; omega
                  clear hx hy hz hE h3 hji hj
                  go_wp2_with (go_at_call 51; refine (free_any _ (by omega) _).mono ?_; rintro e w' ⟨rfl, rfl⟩)
                  go_roundw
                  case rel => exact ⟨i + 1, by go_num, by omega, NX.out, HE.out⟩
                  case measure => simp only [intOf]; omega
                · have hb : (x != -1 - (i : Int)) = true := by simp; omega
                  by_cases he : y = z
                  · have HE := Lib.hid (hE.out.round (by rw [covAt_neg hx hy (by omega) hj hz, he]; simp))
                    have hb' : (z != z) = false := by simp
                    subst he
                    clear hx hy hz hE
                    go_wp2_with (go_at_call 51; refine (free_any _ (by omega) _).mono ?_; rintro e w' ⟨rfl, rfl⟩)
                    go_quiet (fail)
                    generalize hW : wr.drewN _ = w3
                    have hnx2 : Below (w.heap.size + 2) w2 w3 := by rw [← hW]; exact below_drewN NX.out
                    clear hW hA hB hC hb hb' NX
                    go_wp2
                    go_roundw
                    case rel => exact ⟨i + 1, by go_num, by omega, hnx2, HE.out⟩
                    case measure => simp only [intOf]; omega
                  · have hb' : (y != z) = true := by simpa using he
                    have HR := Lib.hid (show V = false by rw [HV.out]; exact coversB_bad h1 (by rw [covAt_neg hx hy (by omega) hj hz]; simpa using he))
                    clear hx hy hz hE he HV
                    go_wp2_with (go_at_call 51; refine (free_any _ (by omega) _).mono ?_; rintro e w' ⟨rfl, rfl⟩)
                    go_quiet (fail)
                    generalize hW : wr.drewN _ = w3
                    have hnx2 : Below (w.heap.size + 2) w2 w3 := by rw [← hW]; exact below_drewN NX.out
                    clear hW hA hB hC hb hb' NX
                    go_wp2
                    go_ret
                    exact ⟨ret_bool HR.out.symm, HB0.out.trans ((N2.out.mono (by omega)).trans (hnx2.mono (by omega)))⟩
            · have e : i = s.cells.length := by omega
              have HR := Lib.hid (show V = true by rw [HV.out]; exact coversB_true HVA.out HVB.out HP.out HL.out (by rw [← e]; exact hE.out))
              clear e
              go_wp2
              go_ret
              exact ⟨ret_bool HR.out.symm, HB0.out.trans ((N2.out.mono (by omega)).trans (NX.out.mono (by omega)))⟩
        · have hpn : (s.pred != t.pred) = false := by simp [hp]
          have hln : ((s.cells.length : Int) != (t.cells.length : Int)) = true := by simp; omega
          have HR := Lib.hid (show V = false by rw [HV.out]; exact coversB_len hl)
          clear hp hl HV
          go_wp2
          go_ret
          exact ⟨ret_bool HR.out.symm, HB0.out.trans (N2.out.mono (by omega))⟩
      · have hpn : (s.pred != t.pred) = true := by simpa using hp
        have HR := Lib.hid (show V = false by rw [HV.out]; exact coversB_pred hp)
        clear hp HV
        go_wp2
        go_ret
        exact ⟨ret_bool HR.out.symm, HB0.out.trans (N2.out.mono (by omega))⟩
    · have hvb' : validB t = false := by simpa using hvb
      have HR := Lib.hid (show V = false by rw [HV.out]; exact coversB_b hvb')
      rw [hvb']
      clear hvb hvb' HV
      go_wp2
      go_ret
      exact ⟨ret_bool HR.out.symm, HB0.out.trans (N2.out.mono (by omega))⟩
  · have hva' : validB s = false := by simpa using hva
    have HR := Lib.hid (show V = false by rw [HV.out]; exact coversB_a hva')
    rw [hva']
    clear hva hva' HV
    go_wp2
    go_ret
    exact ⟨ret_bool HR.out.symm, HB0.out.trans (N1.out.mono (by omega))⟩

end Go.Proofs.Ytlandkindbmbfaa
