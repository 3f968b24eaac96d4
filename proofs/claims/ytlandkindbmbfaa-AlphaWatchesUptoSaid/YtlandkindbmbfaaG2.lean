/-
  Texts of this seat, one behind the other: W4, W5, K2. Conditions: those that each of them states.
-/
import Derived.Test.YtlandkindbmbfaaG1
import Derived.Deep.RegionHeld3
import Derived.Deep.AppendLies
import Derived.Deep.DrawnRows
import Derived.Laws.AppendOwnNone
/-
  The walks of edictref10.Fits and alpha.Covers: each answers the plain law. Conditions: the numbers are ints, the lists fewer than 2^45.
-/
namespace Go.Proofs.Ytlandkindbmbfaa
open Go.RowKit Plain

theorem IntsAt.cells {w : World} {B : Nat} {a : Option Addr} {c : Nat} {l : List Int} (h : l = [] ∨ ∃ g off, a = some ⟨g, off, none⟩ ∧ g < B ∧ ∀ j, j < l.length → w.cell? ⟨g, off + j, none⟩ = some (.int .i64 (at' l j))) : IntsAt w B (.slice a l.length c) l := ⟨a, c, rfl, h⟩

set_option maxRecDepth 100000 in
set_option maxHeartbeats 1600000 in
theorem refFits_any (s : Shp) (x : Value) (p : Int) (row : List Int) (u : Value) (w : World) (hx : ShpAt w w.heap.size x s) (hs : Okay s) (hu : IntsAt w w.heap.size u row) (hr : row.length ≤ 35184372088832) :
    Calls Try.prog 20 #[x, .int .i64 p, u] w (BoolIs w (fitsB s p row)) := by
  obtain ⟨V, hV⟩ : ∃ V, V = fitsB s p row := ⟨_, rfl⟩
  rw [← hV]
  have HV := Lib.hid hV
  clear hV
  obtain ⟨v, rfl, hv⟩ := hx
  obtain ⟨b, cb, rfl, hb⟩ := hu
  have HU := Lib.hid hb
  obtain ⟨a, ca, rfl, ha⟩ := hv
  have HA := Lib.hid ha
  have hsl := hs.len
  have HC := Lib.hid (refValid_any s (.slice a s.cells.length ca) (w.alloc (.cells #[.int .i64 s.pred, .slice a s.cells.length ca] 27)) (((IntsAt.cells ha).alloc (Nat.le_refl _) _).mono (by simp)) hs.ints hsl)
  clear ha hb
  go_enter Try.func20, Try.ntmps20
  go_wp2_with fail
  refine HC.out.mono ?_
  rintro e w1 ⟨rfl, hb1⟩
  have hz1 : w.heap.size + 1 ≤ w1.heap.size := by simpa using hb1.size
  have c0 : w1.cell? ⟨w.heap.size, 0, none⟩ = some (.int .i64 s.pred) := below_cells hb1 (by simp) (by simp)
  have c1 : w1.cell? ⟨w.heap.size, 1, none⟩ = some (.slice a s.cells.length ca) := below_cells hb1 (by simp) (by simp)
  have hb2 : Below w.heap.size w w1 := ((Below.refl _ _).alloc (Nat.le_refl _) _).trans (hb1.mono (by simp))
  have HB := Lib.hid hb2
  clear hb1 hb2 HC
  by_cases hva : validB s = true
  · by_cases hp : p = s.pred
    · by_cases hl : row.length = s.cells.length
      · have hpn : (p != s.pred) = false := by simp [hp]
        have hln : ((s.cells.length : Int) != (s.cells.length : Int)) = false := by simp
        have HL := Lib.hid hl
        have HVA := Lib.hid hva
        have HP := Lib.hid hp
        rw [hl, hva]
        rw [hl] at hr
        clear hl hva hp
        go_wp2
        clear hpn hln
        go_loop [7] (fun k => ∃ i : Nat, k = .int .i64 (i : Int) ∧ i ≤ s.cells.length ∧ Hid (AllTo (fitAt s.cells row) i)) (fun k => s.cells.length - (intOf k).toNat)
        case atStart => exact ⟨0, rfl, Nat.zero_le _, AllTo.start _⟩
        case round =>
          obtain ⟨i, rfl, hil, hE⟩ := hrel
          by_cases h1 : i < s.cells.length
          · obtain ⟨g, off, rfl, hg, hc⟩ := HA.out.resolve_left (fun e => by rw [e] at h1; simp at h1)
            obtain ⟨g2, off2, rfl, hg2, hd⟩ := HU.out.resolve_left (fun e => by rw [← HL.out, e] at h1; simp at h1)
            obtain ⟨x, hx⟩ : ∃ x, x = at' s.cells i := ⟨_, rfl⟩
            obtain ⟨y, hy⟩ : ∃ y, y = at' row i := ⟨_, rfl⟩
            have hA : w1.cell? ⟨g, off + i, none⟩ = some (.int .i64 x) := by
              rw [hx]; exact below_cells HB.out (by simpa using hg) (hc i h1)
            have hB : w1.cell? ⟨g2, off2 + i, none⟩ = some (.int .i64 y) := by
              rw [hy]; exact below_cells HB.out (by simpa using hg2) (hd i (by rw [HL.out]; exact h1))
            have hxb : -9223372036854775808 ≤ x ∧ x ≤ 9223372036854775807 := by rw [hx]; exact hs.ints i
            by_cases h2 : x < 0
            · obtain ⟨j, hj⟩ : ∃ j : Nat, -1 - x = (j : Int) := ⟨(-1 - x).toNat, by omega⟩
              have hji : j ≤ i := by
                obtain ⟨k, hk, hki, _⟩ := valid_cell HVA.out h1 (by rw [← hx]; exact h2)
                rw [← hx] at hk; omega
              obtain ⟨z, hz⟩ : ∃ z, z = at' row j := ⟨_, rfl⟩
              have hC : w1.cell? ⟨g2, off2 + j, none⟩ = some (.int .i64 z) := by
                rw [hz]; exact below_cells HB.out (by simpa using hg2) (hd j (by rw [HL.out]; omega))
              have hjl : j < s.cells.length := by omega
              clear hc hd hg hg2 HA HU hs
              by_cases he : y = z
              · have HE := Lib.hid (hE.out.round (by rw [fitAt_neg hx hy h2 hj hz, he]; simp))
                have hb : (z != z) = false := by simp
                subst he
                clear hx hy hz hE
                go_wp2
                go_round
                case rel => exact ⟨i + 1, by go_num, by omega, HE.out⟩
                case measure => simp only [intOf]; omega
              · have hb : (y != z) = true := by simpa using he
                have HR := Lib.hid (show V = false by rw [HV.out]; exact fitsB_bad (by rw [HL.out]; exact h1) (by rw [fitAt_neg hx hy h2 hj hz]; simpa using he))
                clear hx hy hz hE he HV
                go_wp2
                go_ret
                exact ⟨ret_bool HR.out.symm, HB.out⟩
            · clear hc hd hg hg2 HA HU hs
              by_cases he : y = x
              · have HE := Lib.hid (hE.out.round (by rw [fitAt_pos hx hy (by omega), he]; simp))
                have hb : (x != x) = false := by simp
                subst he
                clear hx hy hE
                go_wp2
                go_round
                case rel => exact ⟨i + 1, by go_num, by omega, HE.out⟩
                case measure => simp only [intOf]; omega
              · have hb : (y != x) = true := by simpa using he
                have HR := Lib.hid (show V = false by rw [HV.out]; exact fitsB_bad (by rw [HL.out]; exact h1) (by rw [fitAt_pos hx hy (by omega)]; simpa using he))
                clear hx hy hE he HV
                go_wp2
                go_ret
                exact ⟨ret_bool HR.out.symm, HB.out⟩
          · have e : i = s.cells.length := by omega
            have HR := Lib.hid (show V = true by rw [HV.out]; exact fitsB_true HVA.out HP.out HL.out (by rw [HL.out, ← e]; exact hE.out))
            clear e
            go_wp2
            go_ret
            exact ⟨ret_bool HR.out.symm, HB.out⟩
      · have hpn : (p != s.pred) = false := by simp [hp]
        have hln : ((row.length : Int) != (s.cells.length : Int)) = true := by simp; omega
        have HR := Lib.hid (show V = false by rw [HV.out]; exact fitsB_len hl)
        rw [hva]
        clear hp hl HV hva
        go_wp2
        go_ret
        exact ⟨ret_bool HR.out.symm, HB.out⟩
    · have hpn : (p != s.pred) = true := by simpa using hp
      have HR := Lib.hid (show V = false by rw [HV.out]; exact fitsB_pred hp)
      rw [hva]
      clear hp HV hva
      go_wp2
      go_ret
      exact ⟨ret_bool HR.out.symm, HB.out⟩
  · have hva' : validB s = false := by simpa using hva
    have HR := Lib.hid (show V = false by rw [HV.out]; exact fitsB_invalid hva')
    rw [hva']
    clear hva hva' HV
    go_wp2
    go_ret
    exact ⟨ret_bool HR.out.symm, HB.out⟩

theorem free_any (n : Int) (hn : 0 ≤ n ∧ n ≤ 9223372036854775807) (w : World) : Calls Try.prog 51 #[.int .i64 n] w fun e w' => e = .returned (.int .i64 (-1 - n)) ∧ w = w' := by
  go_enter Try.func51, Try.ntmps51
  go_wp2
  go_ret
  exact ⟨rfl, rfl⟩

set_option maxRecDepth 100000 in
set_option maxHeartbeats 3200000 in
theorem covers_any (s t : Shp) (x y : Value) (w : World) (hx : ShpAt w w.heap.size x s) (hy : ShpAt w w.heap.size y t) (hs : Okay s) (ht : Okay t) :
    Calls Try.prog 14 #[x, y] w (BoolIs w (coversB s t)) := by
  obtain ⟨V, hV⟩ : ∃ V, V = coversB s t := ⟨_, rfl⟩
  rw [← hV]
  have HV := Lib.hid hV
  clear hV
  obtain ⟨v, rfl, hv⟩ := hx
  obtain ⟨u, rfl, hu⟩ := hy
  obtain ⟨a, ca, rfl, ha⟩ := hv
  obtain ⟨b, cb, rfl, hb⟩ := hu
  have HA := Lib.hid ha
  have HU := Lib.hid hb
  have hsl := hs.len
  have htl := ht.len
  obtain ⟨W0, hW0⟩ : ∃ W0, W0 = (w.alloc (.cells #[.int .i64 s.pred, .slice a s.cells.length ca] 27)).alloc (.cells #[.int .i64 t.pred, .slice b t.cells.length cb] 27) := ⟨_, rfl⟩
  have hz0 : W0.heap.size = w.heap.size + 2 := by rw [hW0]; simp
  have hb0 : Below w.heap.size w W0 := by rw [hW0]; exact ((Below.refl _ _).alloc (Nat.le_refl _) _).alloc (by simp) _
  have cx0 : W0.cell? ⟨w.heap.size, 0, none⟩ = some (.int .i64 s.pred) := by rw [hW0]; simp
  have cy0 : W0.cell? ⟨w.heap.size + 1, 0, none⟩ = some (.int .i64 t.pred) := by rw [hW0]; simp
  have cx : W0.cell? ⟨w.heap.size, 1, none⟩ = some (.slice a s.cells.length ca) := by rw [hW0]; simp
  have cy : W0.cell? ⟨w.heap.size + 1, 1, none⟩ = some (.slice b t.cells.length cb) := by rw [hW0]; simp
  have HB0 := Lib.hid hb0
  have HX0 := Lib.hid cx0
  have HY0 := Lib.hid cy0
  have HX := Lib.hid cx
  have HY := Lib.hid cy
  have HC := Lib.hid (valid_any s (.slice a s.cells.length ca) W0 (((IntsAt.cells ha).below hb0).mono (by omega)) hs.ints hsl)
  have HD : Hid (∀ w1, Below W0.heap.size W0 w1 → Calls Try.prog 17 #[.agg #[.int .i64 t.pred, .slice b t.cells.length cb]] w1 (BoolIs w1 (validB t))) :=
    fun w1 h1 => valid_any t (.slice b t.cells.length cb) w1 ((((IntsAt.cells hb).below hb0).below (h1.mono (by omega))).mono (by have := h1.size; omega)) ht.ints htl
  clear ha hb hb0 cx cy cx0 cy0
  go_enter Try.func14, Try.ntmps14
  go_wp2_with fail
  rw [← hW0]
  clear hW0
  refine HC.out.mono ?_
  rintro e w1 ⟨rfl, hb1⟩
  have N1 := Lib.hid hb1
  clear hb1 HC
  by_cases hva : validB s = true
  · have HVA := Lib.hid hva
    rw [hva]
    clear hva
    have cy0 : w1.cell? ⟨w.heap.size + 1, 0, none⟩ = some (.int .i64 t.pred) := below_cells N1.out (by simp; omega) HY0.out
    have cy : w1.cell? ⟨w.heap.size + 1, 1, none⟩ = some (.slice b t.cells.length cb) := below_cells N1.out (by simp; omega) HY.out
    go_wp2_with fail
    refine (HD.out w1 N1.out).mono ?_
    rintro e w2 ⟨rfl, hb2⟩
    clear cy0 cy
    have N2 := Lib.hid (N1.out.trans (hb2.mono N1.out.size))
    clear N1 hb2 HD
    have cx0 : w2.cell? ⟨w.heap.size, 0, none⟩ = some (.int .i64 s.pred) := below_cells N2.out (by simp; omega) HX0.out
    have cx : w2.cell? ⟨w.heap.size, 1, none⟩ = some (.slice a s.cells.length ca) := below_cells N2.out (by simp; omega) HX.out
    have cy0 : w2.cell? ⟨w.heap.size + 1, 0, none⟩ = some (.int .i64 t.pred) := below_cells N2.out (by simp; omega) HY0.out
    have cy : w2.cell? ⟨w.heap.size + 1, 1, none⟩ = some (.slice b t.cells.length cb) := below_cells N2.out (by simp; omega) HY.out
    by_cases hvb : validB t = true
    · have HVB := Lib.hid hvb
      rw [hvb]
      clear hvb
      by_cases hp : s.pred = t.pred
      · by_cases hl : s.cells.length = t.cells.length
        · have hpn : (s.pred != t.pred) = false := by simp [hp]
          have hln : ((s.cells.length : Int) != (s.cells.length : Int)) = false := by simp
          have HL := Lib.hid hl
          have HP := Lib.hid hp
          rw [← hl] at htl cy
          have HX := Lib.hid cx
          have HY := Lib.hid cy
          clear hl hp
          go_wp2
          clear hpn hln
          clear cx cx0 cy cy0
          go_loopw [34] (fun k wr => ∃ i : Nat, k = .int .i64 (i : Int) ∧ i ≤ s.cells.length ∧ Below (w.heap.size + 2) w2 wr ∧ Hid (AllTo (covAt s.cells t.cells) i)) (fun k _ => s.cells.length - (intOf k).toNat)
          case atStart => exact ⟨0, rfl, Nat.zero_le _, Below.refl _ _, AllTo.start _⟩
          case round =>
            obtain ⟨i, rfl, hil, hnx, hE⟩ := hrel
            have NX := Lib.hid hnx
            have hcy := below_cells hnx (p := ⟨w.heap.size + 1, 1, none⟩) (by simp) HY.out
            clear hnx
            by_cases h1 : i < s.cells.length
            · obtain ⟨g, off, rfl, hg, hc⟩ := HA.out.resolve_left (fun e => by rw [e] at h1; simp at h1)
              obtain ⟨g2, off2, rfl, hg2, hd⟩ := HU.out.resolve_left (fun e => by rw [HL.out, e] at h1; simp at h1)
              obtain ⟨x, hx⟩ : ∃ x, x = at' s.cells i := ⟨_, rfl⟩
              obtain ⟨y, hy⟩ : ∃ y, y = at' t.cells i := ⟨_, rfl⟩
              have hA : wr.cell? ⟨g, off + i, none⟩ = some (.int .i64 x) := by
                rw [hx]; exact below_cells (((HB0.out.trans (N2.out.mono (by omega))).trans (NX.out.mono (by omega)))) (by simpa using hg) (hc i h1)
              have hB : wr.cell? ⟨g2, off2 + i, none⟩ = some (.int .i64 y) := by
                rw [hy]; exact below_cells (((HB0.out.trans (N2.out.mono (by omega))).trans (NX.out.mono (by omega)))) (by simpa using hg2) (hd i (by rw [← HL.out]; exact h1))
              have hxb : -9223372036854775808 ≤ x ∧ x ≤ 9223372036854775807 := by rw [hx]; exact hs.ints i
              by_cases h2 : 0 ≤ x
              · clear hc hd hg hg2 HA HU hs ht
                by_cases he : y = x
                · have HE := Lib.hid (hE.out.round (by rw [covAt_pos hx hy h2, he]; simp))
                  have hb : (x != x) = false := by simp
                  subst he
                  clear hx hy hE
                  go_wp2
                  go_roundw
                  case rel => exact ⟨i + 1, by go_num, by omega, NX.out, HE.out⟩
                  case measure => simp only [intOf]; omega
                · have hb : (y != x) = true := by simpa using he
                  have HR := Lib.hid (show V = false by rw [HV.out]; exact coversB_bad h1 (by rw [covAt_pos hx hy h2]; simpa using he))
                  clear hx hy hE he HV
                  go_wp2
                  go_ret
                  exact ⟨ret_bool HR.out.symm, HB0.out.trans ((N2.out.mono (by omega)).trans (NX.out.mono (by omega)))⟩
              · obtain ⟨j, hj⟩ : ∃ j : Nat, -1 - x = (j : Int) := ⟨(-1 - x).toNat, by omega⟩
                have hji : j ≤ i := by
                  obtain ⟨k, hk, hki, _⟩ := valid_cell HVA.out h1 (by rw [← hx]; omega)
                  rw [← hx] at hk; omega
                obtain ⟨z, hz⟩ : ∃ z, z = at' t.cells j := ⟨_, rfl⟩
                have hC : wr.cell? ⟨g2, off2 + j, none⟩ = some (.int .i64 z) := by
                  rw [hz]; exact below_cells (((HB0.out.trans (N2.out.mono (by omega))).trans (NX.out.mono (by omega)))) (by simpa using hg2) (hd j (by rw [← HL.out]; omega))
                have hjl : j < s.cells.length := by omega
                clear hc hd hg hg2 HA HU hs ht
                by_cases h3 : j = i
                · have HE := Lib.hid (hE.out.round (by rw [covAt_neg hx hy (by omega) hj hz, hy, hz, h3]; simp))
                  have hb : (x != -1 - (i : Int)) = false := by simp; omega
                  clear hx hy hz hE h3 hji hj
                  go_wp2_with (go_at_call 51; refine (free_any _ (by omega) _).mono ?_; rintro e w' ⟨rfl, rfl⟩)
                  go_roundw
                  case rel => exact ⟨i + 1, by go_num, by omega, NX.out, HE.out⟩
                  case measure => simp only [intOf]; omega
                · have hb : (x != -1 - (i : Int)) = true := by simp; omega
                  by_cases he : y = z
                  · have HE := Lib.hid (hE.out.round (by rw [covAt_neg hx hy (by omega) hj hz, he]; simp))
                    have hb' : (z != z) = false := by simp
                    subst he
                    clear hx hy hz hE
                    go_wp2_with (go_at_call 51; refine (free_any _ (by omega) _).mono ?_; rintro e w' ⟨rfl, rfl⟩)
                    go_quiet (fail)
                    generalize hW : wr.drewN _ = w3
                    have hnx2 : Below (w.heap.size + 2) w2 w3 := by rw [← hW]; exact below_drewN NX.out
                    clear hW hA hB hC hb hb' NX
                    go_wp2
                    go_roundw
                    case rel => exact ⟨i + 1, by go_num, by omega, hnx2, HE.out⟩
                    case measure => simp only [intOf]; omega
                  · have hb' : (y != z) = true := by simpa using he
                    have HR := Lib.hid (show V = false by rw [HV.out]; exact coversB_bad h1 (by rw [covAt_neg hx hy (by omega) hj hz]; simpa using he))
                    clear hx hy hz hE he HV
                    go_wp2_with (go_at_call 51; refine (free_any _ (by omega) _).mono ?_; rintro e w' ⟨rfl, rfl⟩)
                    go_quiet (fail)
                    generalize hW : wr.drewN _ = w3
                    have hnx2 : Below (w.heap.size + 2) w2 w3 := by rw [← hW]; exact below_drewN NX.out
                    clear hW hA hB hC hb hb' NX
                    go_wp2
                    go_ret
                    exact ⟨ret_bool HR.out.symm, HB0.out.trans ((N2.out.mono (by omega)).trans (hnx2.mono (by omega)))⟩
            · have e : i = s.cells.length := by omega
              have HR := Lib.hid (show V = true by rw [HV.out]; exact coversB_true HVA.out HVB.out HP.out HL.out (by rw [← e]; exact hE.out))
              clear e
              go_wp2
              go_ret
              exact ⟨ret_bool HR.out.symm, HB0.out.trans ((N2.out.mono (by omega)).trans (NX.out.mono (by omega)))⟩
        · have hpn : (s.pred != t.pred) = false := by simp [hp]
          have hln : ((s.cells.length : Int) != (t.cells.length : Int)) = true := by simp; omega
          have HR := Lib.hid (show V = false by rw [HV.out]; exact coversB_len hl)
          clear hp hl HV
          go_wp2
          go_ret
          exact ⟨ret_bool HR.out.symm, HB0.out.trans (N2.out.mono (by omega))⟩
      · have hpn : (s.pred != t.pred) = true := by simpa using hp
        have HR := Lib.hid (show V = false by rw [HV.out]; exact coversB_pred hp)
        clear hp HV
        go_wp2
        go_ret
        exact ⟨ret_bool HR.out.symm, HB0.out.trans (N2.out.mono (by omega))⟩
    · have hvb' : validB t = false := by simpa using hvb
      have HR := Lib.hid (show V = false by rw [HV.out]; exact coversB_b hvb')
      rw [hvb']
      clear hvb hvb' HV
      go_wp2
      go_ret
      exact ⟨ret_bool HR.out.symm, HB0.out.trans (N2.out.mono (by omega))⟩
  · have hva' : validB s = false := by simpa using hva
    have HR := Lib.hid (show V = false by rw [HV.out]; exact coversB_a hva')
    rw [hva']
    clear hva hva' HV
    go_wp2
    go_ret
    exact ⟨ret_bool HR.out.symm, HB0.out.trans (N1.out.mono (by omega))⟩

end Go.Proofs.Ytlandkindbmbfaa
/-
  The walks of edictref10.Loosest and edictref10.Covers: the loosest row of a shape; whether one shape covers another. Conditions: the numbers are ints, the lists fewer than 2^44.
-/
namespace Go.Proofs.Ytlandkindbmbfaa
open Go.RowKit Plain

/-- The cells of a list of ints. -/
def lits (l : List Int) : List Value := l.map fun d => Value.int .i64 d
theorem lits_length (l : List Int) : (lits l).length = l.length := List.length_map _
theorem lits_snoc (l : List Int) (d : Int) : lits (l ++ [d]) = lits l ++ [.int .i64 d] := by simp [lits]
theorem lits_append (l m : List Int) : lits (l ++ m) = lits l ++ lits m := by simp [lits]
theorem lits_get (l : List Int) (i : Nat) (h : i < l.length) : (lits l)[i]? = some (.int .i64 (at' l i)) := by
  simp [lits, at', List.getElem?_eq_getElem h]
theorem Try.info3 : (Try.prog.info? 3).map (fun i => (i.zero, i.size, i.bytes)) = some (some (.int .i64 0), 1, 8) := by kernel_rfl
theorem one_i64 (x : Int) : ∀ u ∈ [Value.int .i64 x], u.oneCell' = true := by intro u hu; simp at hu; subst hu; rfl

/-- A row of ints of the call's own, from block B on. -/
def OwnInts (w : World) (B : Nat) (v : Value) (l : List Int) : Prop := w.ownsRow B 3 1 v l.length (lits l)
theorem OwnInts.nil (w : World) (B : Nat) : OwnInts w B (.slice none 0 0) [] := World.ownsRow_nil _ _ _ _
theorem OwnInts.at {w : World} {B : Nat} {v : Value} {l : List Int} (h : OwnInts w B v l) : IntsAt w w.heap.size v l := by
  rcases Joins.ownsRow_forms h with ⟨rfl, h0⟩ | ⟨g, cap, rfl⟩
  · obtain rfl := List.length_eq_zero_iff.1 h0
    exact ⟨none, 0, rfl, .inl rfl⟩
  · refine ⟨_, cap, rfl, .inr ⟨g, 0, rfl, (h.lt g rfl).2, fun j hj => ?_⟩⟩
    rw [Nat.zero_add, World.ownsRow.cellAt h j (by omega)]; exact lits_get l j hj
theorem OwnInts.cell {w : World} {B g cap : Nat} {l : List Int} (h : OwnInts w B (.slice (some ⟨g, 0, none⟩) l.length cap) l) {j : Nat} (hj : j < l.length) : w.cell? ⟨g, 0 + j, none⟩ = some (.int .i64 (at' l j)) := by
  rw [Nat.zero_add, World.ownsRow.cellAt h j (by omega)]; exact lits_get l j hj

theorem own_snoc {B : Nat} {w wr w1 : World} {v v' : Value} {l : List Int} {x : Int} {o : Obj} (hB : B ≤ wr.heap.size)
    (hown : OwnInts wr B v l) (hnx : Below B w wr)
    (hown' : w1.ownsRow B 3 1 v' (l.length + 1) (lits l ++ [.int .i64 x])) (hgrow : (wr.alloc o).grownBy w1 v.ownBlock) :
    OwnInts w1 B v' (l ++ [x]) ∧ Below B w w1 := by
  refine ⟨by unfold OwnInts; rw [lits_snoc, List.length_append, List.length_singleton]; exact hown', ?_⟩
  exact (hnx.alloc hB o).grown hgrow (by simp; omega) (fun j hj => (hown.lt j hj).1)

def LooseIs (s t : Shp) (w : World) (e : Ending) (w' : World) : Prop :=
  ∃ (v : Value) (row : List Int) (n : Int), e = .returned v ∧ IntsAt w' w'.heap.size v row ∧ Below w.heap.size w w' ∧ row.length = t.cells.length ∧ Loose s.cells t.cells row n

def LooseRel (a b : List Int) (W0 : World) (v x k : Value) (wr : World) : Prop :=
  ∃ (row : List Int) (n : Nat), x = .int .i64 (n : Int) ∧ k = .int .i64 (row.length : Int) ∧ row.length ≤ b.length ∧ OwnInts wr W0.heap.size v row ∧ Below W0.heap.size W0 wr ∧ Loose a b row n ∧ Near a b row.length n

set_option maxRecDepth 100000 in
set_option maxHeartbeats 3200000 in
theorem loosest_any (s t : Shp) (x y : Value) (w : World) (hx : ShpAt w w.heap.size x s) (hy : ShpAt w w.heap.size y t) (hs : Okay s) (ht : Okay t) (ht2 : t.cells.length ≤ 17592186044400) (hvb : validB t = true) :
    Calls Try.prog 52 #[x, y] w (LooseIs s t w) := by
  obtain ⟨i0, qi, q0, q1, q2⟩ := info_parts Try.info3
  obtain ⟨v, rfl, hv⟩ := hx
  obtain ⟨u, rfl, hu⟩ := hy
  obtain ⟨a, ca, rfl, ha⟩ := hv
  obtain ⟨b, cb, rfl, hb⟩ := hu
  have HA := Lib.hid ha
  have HU := Lib.hid hb
  have hsl := hs.len
  have HVB := Lib.hid hvb
  obtain ⟨W0, hW0⟩ : ∃ W0, W0 = (w.alloc (.cells #[.int .i64 s.pred, .slice a s.cells.length ca] 27)).alloc (.cells #[.int .i64 t.pred, .slice b t.cells.length cb] 27) := ⟨_, rfl⟩
  have hz0 : W0.heap.size = w.heap.size + 2 := by rw [hW0]; simp
  have hb0 : Below w.heap.size w W0 := by rw [hW0]; exact ((Below.refl _ _).alloc (Nat.le_refl _) _).alloc (by simp) _
  have cx : W0.cell? ⟨w.heap.size, 1, none⟩ = some (.slice a s.cells.length ca) := by rw [hW0]; simp
  have cy : W0.cell? ⟨w.heap.size + 1, 1, none⟩ = some (.slice b t.cells.length cb) := by rw [hW0]; simp
  have HB0 := Lib.hid hb0
  have HX := Lib.hid cx
  have HY := Lib.hid cy
  have HZ := Lib.hid hz0
  clear ha hb hb0 cx cy hvb
  go_enter Try.func52, Try.ntmps52
  go_wp2
  rw [← hW0]
  clear hW0
  go_loopw [5, 6, 7] (fun v n k wr => LooseRel s.cells t.cells W0 v n k wr) (fun _ _ k _ => t.cells.length - (intOf k).toNat)
  case atStart => exact ⟨[], 0, rfl, rfl, Nat.zero_le _, OwnInts.nil _ _, Below.refl _ _, Loose.start _ _ _, Near.start _ _⟩
  case round =>
    obtain ⟨row, n, rfl, rfl, hil, hown, hnx, hL, hN⟩ := hrel
    have NX := Lib.hid hnx
    have hsz := hnx.size
    have hcx := below_cells hnx (p := ⟨w.heap.size, 1, none⟩) (by simp; omega) HX.out
    have hcy := below_cells hnx (p := ⟨w.heap.size + 1, 1, none⟩) (by simp; omega) HY.out
    have hnb := hN.le
    clear hnx
    by_cases h1 : row.length < t.cells.length
    · obtain ⟨g2, off2, rfl, hg2, hd⟩ := HU.out.resolve_left (fun e => by rw [e] at h1; simp at h1)
      obtain ⟨c, hc⟩ : ∃ c, c = at' t.cells row.length := ⟨_, rfl⟩
      have hB : wr.cell? ⟨g2, off2 + row.length, none⟩ = some (.int .i64 c) := by
        rw [hc]; exact below_cells (HB0.out.trans (NX.out.mono (by omega))) (by simpa using hg2) (hd _ h1)
      have hcb : -9223372036854775808 ≤ c ∧ c ≤ 9223372036854775807 := by rw [hc]; exact ht.ints _
      have HUT := Lib.hid (show IntsAt wr wr.heap.size (.slice (some ⟨g2, off2, none⟩) t.cells.length cb) t.cells from
        ((IntsAt.cells (.inr ⟨g2, off2, rfl, hg2, hd⟩)).below (HB0.out.trans (NX.out.mono (by omega)))).mono (by omega))
      have HUS := Lib.hid (show IntsAt wr wr.heap.size (.slice a s.cells.length ca) s.cells from
        ((IntsAt.cells HA.out).below (HB0.out.trans (NX.out.mono (by omega)))).mono (by omega))
      clear hd HU
      by_cases h2 : 0 ≤ c
      · have HL := Lib.hid (hL.round_const hc h2)
        have HN := Lib.hid hN.row
        clear hL hN hc
        go_wp2_with (at_builtin; refine wpList_append_own _ rfl _ _ 25 rfl W0.heap.size 3 i0 (.int .i64 0) 1 8 Try.underlying25 qi q0 q1 q2 rfl (by decide) _ _ _ rfl (hown.alloc _) ⟨wr.heap.size, 0, none⟩ 1 1 [.int .i64 c] rfl rfl (cell_one_new _ _ _) (one_i64 _) (by unfold maxLen; omega) (by omega) (by simp; omega) ?_; intro v' w1 hown' hgrow _)
        have R := own_snoc hsz hown NX.out hown' hgrow
        go_roundw
        case rel => exact ⟨row ++ [c], n, rfl, by simp, by rw [List.length_append]; exact h1, R.1, R.2, HL.out, by simpa using HN.out⟩
        case measure => simp [intOf]; omega
      · obtain ⟨j, hj⟩ : ∃ j : Nat, -1 - c = (j : Int) := ⟨(-1 - c).toNat, by omega⟩
        by_cases h3 : j < row.length
        · obtain ⟨z, hz⟩ : ∃ z, z = at' row j := ⟨_, rfl⟩
          obtain ⟨gr, cr, rfl⟩ := Joins.ownsRow_form hown (by omega)
          have hC : wr.cell? ⟨gr, 0 + j, none⟩ = some (.int .i64 z) := by rw [hz]; exact OwnInts.cell hown h3
          rw [Nat.zero_add] at hC
          have HL := Lib.hid (hL.round_copy hc (by omega) hj h3 hz)
          have HN := Lib.hid hN.row
          clear hL hN hc hz
          go_wp2_with (at_builtin; refine wpList_append_own _ rfl _ _ 25 rfl W0.heap.size 3 i0 (.int .i64 0) 1 8 Try.underlying25 qi q0 q1 q2 rfl (by decide) _ _ _ rfl (hown.alloc _) ⟨wr.heap.size, 0, none⟩ 1 1 [.int .i64 z] rfl rfl (cell_one_new _ _ _) (one_i64 _) (by unfold maxLen; omega) (by omega) (by simp; omega) ?_; intro v' w1 hown' hgrow _)
          have R := own_snoc hsz hown NX.out hown' hgrow
          go_roundw
          case rel => exact ⟨row ++ [z], n, rfl, by simp, by rw [List.length_append]; exact h1, R.1, R.2, HL.out, by simpa using HN.out⟩
          case measure => simp [intOf]; omega
        · have hji : j = row.length := by
            obtain ⟨k, hk, hki, _⟩ := valid_cell HVB.out h1 (by rw [← hc]; omega)
            rw [← hc] at hk; omega
          have HC := Lib.hid hc
          have HL := Lib.hid hL
          have HN := Lib.hid hN
          clear hL hN hc
          go_wp2
          go_loop [6] (fun x => ∃ m : Nat, x = .int .i64 (m : Int) ∧ m ≤ row.length + s.cells.length + t.cells.length ∧ Hid (Loose s.cells t.cells row m ∧ Near s.cells t.cells row.length m)) (fun x => row.length + s.cells.length + t.cells.length + 1 - (intOf x).toNat)
          case atStart => exact ⟨n, rfl, hnb, HL.out, HN.out⟩
          case round =>
            obtain ⟨m, rfl, hml, hLN⟩ := hrel
            by_cases hma : (m : Int) ∈ s.cells
            · have hk := hLN.out.2.skip (.inl hma)
              have HK := Lib.hid (And.intro (hLN.out.1.next (show (m : Int) ≤ ((m + 1 : Nat) : Int) by omega)) hk)
              have hkl := hk.le
              have hdm : decide ((m : Int) ∈ s.cells) = true := decide_eq_true hma
              clear hk hLN hma
              go_wp2_with fail
              refine (within_any _ _ _ _ HUS.out hsl).mono ?_
              rintro e w' ⟨rfl, rfl⟩
              rw [hdm]
              clear hdm
              go_wp2
              go_round
              case rel => exact ⟨m + 1, by go_num, hkl, HK.out⟩
              case measure => simp only [intOf]; omega
            · by_cases hmb : (m : Int) ∈ t.cells
              · have hk := hLN.out.2.skip (.inr hmb)
                have HK := Lib.hid (And.intro (hLN.out.1.next (show (m : Int) ≤ ((m + 1 : Nat) : Int) by omega)) hk)
                have hkl := hk.le
                have hdm : decide ((m : Int) ∈ s.cells) = false := decide_eq_false hma
                have hdm2 : decide ((m : Int) ∈ t.cells) = true := decide_eq_true hmb
                clear hk hLN hma hmb
                go_wp2_with fail
                refine (within_any _ _ _ _ HUS.out hsl).mono ?_
                rintro e w' ⟨rfl, rfl⟩
                rw [hdm]
                clear hdm
                go_wp2_with fail
                refine (within_any _ _ _ _ HUT.out (by omega)).mono ?_
                rintro e w' ⟨rfl, rfl⟩
                rw [hdm2]
                clear hdm2
                go_wp2
                go_round
                case rel => exact ⟨m + 1, by go_num, hkl, HK.out⟩
                case measure => simp only [intOf]; omega
              · have HK := Lib.hid (hLN.out.1.round_fresh HC.out (by omega) hma hmb)
                have HN2 := Lib.hid hLN.out.2.took
                have hdm : decide ((m : Int) ∈ s.cells) = false := decide_eq_false hma
                have hdm2 : decide ((m : Int) ∈ t.cells) = false := decide_eq_false hmb
                clear hLN hma hmb
                go_wp2_with fail
                refine (within_any _ _ _ _ HUS.out hsl).mono ?_
                rintro e w' ⟨rfl, rfl⟩
                rw [hdm]
                clear hdm
                go_wp2_with fail
                refine (within_any _ _ _ _ HUT.out (by omega)).mono ?_
                rintro e w' ⟨rfl, rfl⟩
                rw [hdm2]
                clear hdm2
                go_wp2_with (at_builtin; refine wpList_append_own _ rfl _ _ 25 rfl W0.heap.size 3 i0 (.int .i64 0) 1 8 Try.underlying25 qi q0 q1 q2 rfl (by decide) _ _ _ rfl (hown.alloc _) ⟨wr.heap.size, 0, none⟩ 1 1 [.int .i64 (m : Int)] rfl rfl (cell_one_new _ _ _) (one_i64 _) (by unfold maxLen; omega) (by omega) (by simp; omega) ?_; intro v' w1 hown' hgrow _)
                have R := own_snoc hsz hown NX.out hown' hgrow
                go_roundw
                case rel => exact ⟨row ++ [(m : Int)], m + 1, by go_num, by simp, by rw [List.length_append]; exact h1, R.1, R.2, HK.out, by simpa using HN2.out⟩
                case measure => simp [intOf]; omega
    · have e : row.length = t.cells.length := by omega
      have HE := Lib.hid e
      have HL := Lib.hid hL
      clear e hL hN
      go_wp2
      go_ret
      exact ⟨_, row, n, rfl, hown.at, HB0.out.trans (NX.out.mono (by omega)), HE.out, HL.out⟩

set_option maxRecDepth 100000 in
set_option maxHeartbeats 3200000 in
theorem refCovers_any (s t : Shp) (x y : Value) (w : World) (hx : ShpAt w w.heap.size x s) (hy : ShpAt w w.heap.size y t) (hs : Okay s) (ht : Okay t) (ht2 : t.cells.length ≤ 17592186044400) :
    Calls Try.prog 15 #[x, y] w (BoolIs w (coversB s t)) := by
  obtain ⟨V, hV⟩ : ∃ V, V = coversB s t := ⟨_, rfl⟩
  rw [← hV]
  have HV := Lib.hid hV
  clear hV
  obtain ⟨v, rfl, hv⟩ := hx
  obtain ⟨u, rfl, hu⟩ := hy
  obtain ⟨a, ca, rfl, ha⟩ := hv
  obtain ⟨b, cb, rfl, hb⟩ := hu
  have hsl := hs.len
  have htl := ht.len
  obtain ⟨W0, hW0⟩ : ∃ W0, W0 = (w.alloc (.cells #[.int .i64 s.pred, .slice a s.cells.length ca] 27)).alloc (.cells #[.int .i64 t.pred, .slice b t.cells.length cb] 27) := ⟨_, rfl⟩
  have hz0 : W0.heap.size = w.heap.size + 2 := by rw [hW0]; simp
  have hb0 : Below w.heap.size w W0 := by rw [hW0]; exact ((Below.refl _ _).alloc (Nat.le_refl _) _).alloc (by simp) _
  have cx0 : W0.cell? ⟨w.heap.size, 0, none⟩ = some (.int .i64 s.pred) := by rw [hW0]; simp
  have cy0 : W0.cell? ⟨w.heap.size + 1, 0, none⟩ = some (.int .i64 t.pred) := by rw [hW0]; simp
  have cx : W0.cell? ⟨w.heap.size, 1, none⟩ = some (.slice a s.cells.length ca) := by rw [hW0]; simp
  have cy : W0.cell? ⟨w.heap.size + 1, 1, none⟩ = some (.slice b t.cells.length cb) := by rw [hW0]; simp
  have HB0 := Lib.hid hb0
  have HX0 := Lib.hid cx0
  have HY0 := Lib.hid cy0
  have HX := Lib.hid cx
  have HY := Lib.hid cy
  have SA : ∀ w1, Below W0.heap.size W0 w1 → IntsAt w1 w1.heap.size (.slice a s.cells.length ca) s.cells :=
    fun w1 h1 => (((IntsAt.cells ha).below hb0).below (h1.mono (by omega))).mono (by have := h1.size; omega)
  have TA : ∀ w1, Below W0.heap.size W0 w1 → IntsAt w1 w1.heap.size (.slice b t.cells.length cb) t.cells :=
    fun w1 h1 => (((IntsAt.cells hb).below hb0).below (h1.mono (by omega))).mono (by have := h1.size; omega)
  have HC := Lib.hid (refValid_any s (.slice a s.cells.length ca) W0 (SA W0 (Below.refl _ _)) hs.ints hsl)
  have SA := Lib.hid SA
  have TA := Lib.hid TA
  clear ha hb hb0 cx cy cx0 cy0
  go_enter Try.func15, Try.ntmps15
  go_wp2_with fail
  rw [← hW0]
  clear hW0
  refine HC.out.mono ?_
  rintro e w1 ⟨rfl, hb1⟩
  have N1 := Lib.hid hb1
  clear hb1 HC
  by_cases hva : validB s = true
  · have HVA := Lib.hid hva
    rw [hva]
    clear hva
    have cy0 : w1.cell? ⟨w.heap.size + 1, 0, none⟩ = some (.int .i64 t.pred) := below_cells N1.out (by simp; omega) HY0.out
    have cy : w1.cell? ⟨w.heap.size + 1, 1, none⟩ = some (.slice b t.cells.length cb) := below_cells N1.out (by simp; omega) HY.out
    go_wp2_with fail
    refine (refValid_any t (.slice b t.cells.length cb) w1 (TA.out w1 N1.out) ht.ints htl).mono ?_
    rintro e w2 ⟨rfl, hb2⟩
    clear cy0 cy
    have N2 := Lib.hid (N1.out.trans (hb2.mono N1.out.size))
    clear N1 hb2
    have cx0 : w2.cell? ⟨w.heap.size, 0, none⟩ = some (.int .i64 s.pred) := below_cells N2.out (by simp; omega) HX0.out
    have cx : w2.cell? ⟨w.heap.size, 1, none⟩ = some (.slice a s.cells.length ca) := below_cells N2.out (by simp; omega) HX.out
    have cy0 : w2.cell? ⟨w.heap.size + 1, 0, none⟩ = some (.int .i64 t.pred) := below_cells N2.out (by simp; omega) HY0.out
    have cy : w2.cell? ⟨w.heap.size + 1, 1, none⟩ = some (.slice b t.cells.length cb) := below_cells N2.out (by simp; omega) HY.out
    by_cases hvb : validB t = true
    · have HVB := Lib.hid hvb
      rw [hvb]
      clear hvb
      go_wp2_with fail
      refine (loosest_any s t _ _ w2 ⟨_, rfl, SA.out w2 N2.out⟩ ⟨_, rfl, TA.out w2 N2.out⟩ hs ht ht2 HVB.out).mono ?_
      rintro e w3 ⟨v3, row, n, rfl, hrow, hb3, hrl, hL⟩
      clear cx0 cx cy0 cy
      have N3 := Lib.hid (N2.out.trans (hb3.mono N2.out.size))
      clear N2 hb3
      have cx0 : w3.cell? ⟨w.heap.size, 0, none⟩ = some (.int .i64 s.pred) := below_cells N3.out (by simp; omega) HX0.out
      have cx : w3.cell? ⟨w.heap.size, 1, none⟩ = some (.slice a s.cells.length ca) := below_cells N3.out (by simp; omega) HX.out
      have cy0 : w3.cell? ⟨w.heap.size + 1, 0, none⟩ = some (.int .i64 t.pred) := below_cells N3.out (by simp; omega) HY0.out
      have HR := Lib.hid (show fitsB s t.pred row = V by rw [HV.out]; exact hL.decides hrl HVA.out HVB.out)
      have HL := Lib.hid hL
      clear hL
      go_wp2_with fail
      refine (refFits_any s _ t.pred row v3 w3 ⟨_, rfl, SA.out w3 N3.out⟩ hs hrow (by omega)).mono ?_
      rintro e w4 ⟨rfl, hb4⟩
      rw [HR.out]
      go_wp2
      go_ret
      exact ⟨rfl, HB0.out.trans ((N3.out.trans (hb4.mono N3.out.size)).mono (by omega))⟩
    · have hvb' : validB t = false := by simpa using hvb
      have HR := Lib.hid (show V = false by rw [HV.out]; exact coversB_b hvb')
      rw [hvb']
      clear hvb hvb' HV
      go_wp2
      go_ret
      exact ⟨ret_bool HR.out.symm, HB0.out.trans (N2.out.mono (by omega))⟩
  · have hva' : validB s = false := by simpa using hva
    have HR := Lib.hid (show V = false by rw [HV.out]; exact coversB_a hva')
    rw [hva']
    clear hva hva' HV
    go_wp2
    go_ret
    exact ⟨ret_bool HR.out.symm, HB0.out.trans (N1.out.mono (by omega))⟩

end Go.Proofs.Ytlandkindbmbfaa
/-
  What the walks of the layer of shapes are told of lists of shapes in memory, read and owned; append at a step of a region that draws its order. No condition beyond those that each lemma states.
-/
namespace Go.Proofs.Ytlandkindbmbfaa
open Go.RowKit Plain

/-- append at a step of a region that draws: something or nothing is appended, from a known address. -/
theorem step_append_own {P : Program} (w : World) {ops : Array Oper} {o : Oper} {a : Act} {K : Act → World → Prop} {Q : Exit → Act → World → Prop} {E : Prop} (hgd : o.guard = none) (s x : Operand) (t : TypeId)
    (ho : o.op = .call { callee := .builtin .append, args := #[s, x], argTypes := #[t, t] })
    (base : Nat) (e : TypeId) (i : TypeInfo) (z : Value) (size bytes : Nat) (ht : P.underlying t = some (.slice e)) (hi : P.info? e = some i) (hz : i.zero = some z)
    (hsize : i.size = size) (hby : i.bytes = bytes) (hzs : z.cells.size = size) (hsz : 0 < size)
    (v : Value) (n : Nat) (xs : List Value) (hs : a.eval s = v) (hown : w.ownsRow base e size v n xs)
    (ad : Addr) (m c : Nat) (news : List Value) (hx : a.eval x = .slice (some ad) m c) (hl : news.length = m * size) (hnews : ∀ j u, news[j]? = some u → w.cell? (ad.add j) = some u) (h1 : ∀ u ∈ news, u.oneCell' = true)
    (h63 : n + m ≤ maxLen) (hbytes : (n + m) * bytes ≤ 140737488355328) (hbase : base ≤ w.heap.size)
    (h : ∀ v' w', w'.ownsRow base e size v' (n + m) (xs ++ news) → w.grownBy w' v.ownBlock → (v' = .slice none 0 0 ↔ v = .slice none 0 0 ∧ m = 0) → K (a.put o.dst v') w') :
    if Region.wanted o (yielded ops a.tmps) = true then Oper.wp P o a w K Q else E := by
  have hw : Region.wanted o (yielded ops a.tmps) = true := by simp [Region.wanted, hgd]
  rw [if_pos hw]
  exact wp_append_own w s x t ho base e i z size bytes ht hi hz hsize hby hzs hsz v n xs hs hown ad m c news hx hl hnews h1 h63 hbytes hbase h

/-- The same where nothing is appended, out of nil. -/
theorem step_append_own_none {P : Program} (w : World) {ops : Array Oper} {o : Oper} {a : Act} {K : Act → World → Prop} {Q : Exit → Act → World → Prop} {E : Prop} (hgd : o.guard = none) (s x : Operand) (t : TypeId)
    (ho : o.op = .call { callee := .builtin .append, args := #[s, x], argTypes := #[t, t] })
    (base : Nat) (e : TypeId) (i : TypeInfo) (size : Nat) (ht : P.underlying t = some (.slice e)) (hi : P.info? e = some i)
    (v : Value) (n : Nat) (xs : List Value) (hs : a.eval s = v) (hown : w.ownsRow base e size v n xs) (hx : a.eval x = .slice none 0 0)
    (h : K (a.put o.dst v) w) :
    if Region.wanted o (yielded ops a.tmps) = true then Oper.wp P o a w K Q else E := by
  have hw : Region.wanted o (yielded ops a.tmps) = true := by simp [Region.wanted, hgd]
  rw [if_pos hw]
  have hrun := run_append_owned_none (P := P) (w := w) base t o.type e i size ht hi v n xs hown
  unfold Oper.wp
  simp [execOp, ho, resolve, invoke, builtin, hs, hx, hrun, Result.andThen]
  exact h

/-- nil means empty. -/
def Nilly (v : Value) : Prop := ∀ n c, v = .slice none n c → n = 0 ∧ c = 0

theorem IntsAt.heap {w w' : World} {B : Nat} {v : Value} {l : List Int} (h : IntsAt w B v l) (e : w'.heap = w.heap) : IntsAt w' B v l := by
  obtain ⟨a, cap, rfl, h⟩ := h
  refine ⟨a, cap, rfl, ?_⟩
  rcases h with rfl | ⟨g, off, rfl, hg, hc⟩
  · exact .inl rfl
  · exact .inr ⟨g, off, rfl, hg, fun j hj => (World.cell?_of_block (by rw [e])).trans (hc j hj)⟩
theorem addr_add (g off k : Nat) : (⟨g, off, none⟩ : Addr).add k = ⟨g, off + k, none⟩ := by
  unfold Addr.add; split
  · rename_i h; subst h; rfl
  · rfl
/-- The cells that an append of the whole list brings. -/
theorem IntsAt.news {w : World} {B : Nat} {ad : Addr} {n c : Nat} {l : List Int} (h : IntsAt w B (.slice (some ad) n c) l) : ∀ j u, (lits l)[j]? = some u → w.cell? (ad.add j) = some u := by
  intro j u hju
  obtain ⟨a, cap, e, h⟩ := h
  simp only [Value.slice.injEq] at e
  obtain ⟨rfl, rfl, rfl⟩ := e
  have hj : j < l.length := by
    rw [← lits_length]; exact (List.getElem?_eq_some_iff.1 hju).1
  rcases h with rfl | ⟨g, off, h1, _, hc⟩
  · simp at hj
  · obtain rfl := Option.some.inj h1
    rw [addr_add, hc j hj, ← hju, lits_get l j hj]
theorem lits_one (l : List Int) : ∀ u ∈ lits l, u.oneCell' = true := by intro u hu; simp [lits] at hu; obtain ⟨d, _, rfl⟩ := hu; rfl

/-! ### Lists of shapes -/
/-- A slice value that reads as the shapes ss, all below block B. -/
def ShpsAt (w : World) (B : Nat) (v : Value) (ss : List Shp) : Prop :=
  ∃ (a : Option Addr) (cap : Nat), v = .slice a ss.length cap ∧ (ss = [] ∨ ∃ g off, a = some ⟨g, off, none⟩ ∧ g < B ∧
    ∀ (j : Nat) (s : Shp), ss[j]? = some s → ∃ u, w.cell? ⟨g, off + j * 2, none⟩ = some (.int .i64 s.pred) ∧ w.cell? ⟨g, off + j * 2 + 1, none⟩ = some u ∧ IntsAt w B u s.cells ∧ Nilly u)
def Okays (ss : List Shp) : Prop := ∀ s, s ∈ ss → Okay s ∧ s.cells.length ≤ 17592186044400

theorem ShpsAt.below {w w' : World} {B : Nat} {v : Value} {ss : List Shp} (h : ShpsAt w B v ss) (hb : Below B w w') : ShpsAt w' B v ss := by
  obtain ⟨a, cap, rfl, h⟩ := h
  refine ⟨a, cap, rfl, ?_⟩
  rcases h with rfl | ⟨g, off, rfl, hg, hc⟩
  · exact .inl rfl
  · refine .inr ⟨g, off, rfl, hg, fun j s hj => ?_⟩
    obtain ⟨u, h1, h2, h3, h4⟩ := hc j s hj
    exact ⟨u, below_cells hb hg h1, below_cells hb hg h2, h3.below hb, h4⟩
theorem ShpsAt.mono {w : World} {B B' : Nat} {v : Value} {ss : List Shp} (h : ShpsAt w B v ss) (hb : B ≤ B') : ShpsAt w B' v ss := by
  obtain ⟨a, cap, rfl, h⟩ := h
  refine ⟨a, cap, rfl, ?_⟩
  rcases h with rfl | ⟨g, off, rfl, hg, hc⟩
  · exact .inl rfl
  · refine .inr ⟨g, off, rfl, by omega, fun j s hj => ?_⟩
    obtain ⟨u, h1, h2, h3, h4⟩ := hc j s hj
    exact ⟨u, h1, h2, h3.mono hb, h4⟩

/-- The cells of a list of shapes whose cells' slices are vs. -/
def flat : List Shp → List Value → List Value
  | s :: ss, u :: vs => .int .i64 s.pred :: u :: flat ss vs
  | _, _ => []
theorem flat_length : ∀ (ss : List Shp) (vs : List Value), vs.length = ss.length → (flat ss vs).length = ss.length * 2
  | [], [], _ => rfl
  | s :: ss, u :: vs, h => by
    have := flat_length ss vs (by simpa using h)
    simp [flat, this]; omega
  | [], _ :: _, h => by simp at h
  | _ :: _, [], h => by simp at h
theorem flat_snoc : ∀ (ss : List Shp) (vs : List Value) (s : Shp) (u : Value), vs.length = ss.length → flat (ss ++ [s]) (vs ++ [u]) = flat ss vs ++ [.int .i64 s.pred, u]
  | [], [], _, _, _ => rfl
  | t :: ss, x :: vs, s, u, h => by
    have := flat_snoc ss vs s u (by simpa using h)
    simp [flat, this]
  | [], _ :: _, _, _, h => by simp at h
  | _ :: _, [], _, _, h => by simp at h
theorem flat_get : ∀ (ss : List Shp) (vs : List Value) (j : Nat) (s : Shp) (u : Value), ss[j]? = some s → vs[j]? = some u → (flat ss vs)[j * 2]? = some (.int .i64 s.pred) ∧ (flat ss vs)[j * 2 + 1]? = some u
  | [], _, _, _, _, h, _ => by simp at h
  | _ :: _, [], _, _, _, _, h => by simp at h
  | t :: ss, x :: vs, 0, s, u, h1, h2 => by simp at h1 h2; subst h1 h2; exact ⟨rfl, rfl⟩
  | t :: ss, x :: vs, j + 1, s, u, h1, h2 => by
    have := flat_get ss vs j s u (by simpa using h1) (by simpa using h2)
    rw [show (j + 1) * 2 = j * 2 + 1 + 1 by omega]
    exact this

/-- A list of shapes of the call's own, each with cells of its own, all from block B on. -/
def OwnShps (w : World) (B : Nat) (v : Value) (ss : List Shp) : Prop :=
  ∃ vs : List Value, vs.length = ss.length ∧ w.ownsRow B 27 2 v ss.length (flat ss vs) ∧ ∀ (j : Nat) (s : Shp) (u : Value), ss[j]? = some s → vs[j]? = some u → OwnInts w B u s.cells
theorem OwnShps.nil (w : World) (B : Nat) : OwnShps w B (.slice none 0 0) [] := ⟨[], rfl, World.ownsRow_nil _ _ _ _, fun j s u h => by simp at h⟩
theorem OwnInts.nilly {w : World} {B : Nat} {v : Value} {l : List Int} (h : OwnInts w B v l) : Nilly v := by
  intro n c e
  rcases Joins.ownsRow_forms h with ⟨rfl, h0⟩ | ⟨g, cap, rfl⟩
  · simp only [Value.slice.injEq] at e; exact ⟨e.2.1.symm, e.2.2.symm⟩
  · simp at e
theorem OwnShps.at {w : World} {B : Nat} {v : Value} {ss : List Shp} (h : OwnShps w B v ss) : ShpsAt w w.heap.size v ss := by
  obtain ⟨vs, hl, ho, hi⟩ := h
  rcases Joins.ownsRow_forms ho with ⟨rfl, h0⟩ | ⟨g, cap, rfl⟩
  · obtain rfl := List.length_eq_zero_iff.1 h0
    exact ⟨none, 0, rfl, .inl rfl⟩
  · refine ⟨_, cap, rfl, .inr ⟨g, 0, rfl, (ho.lt g rfl).2, fun j s hj => ?_⟩⟩
    have hj' : j < ss.length := (List.getElem?_eq_some_iff.1 hj).1
    obtain ⟨u, hu⟩ : ∃ u, vs[j]? = some u := ⟨vs[j]'(by omega), List.getElem?_eq_getElem (by omega)⟩
    have hf := flat_get ss vs j s u hj hu
    have ho2 := hi j s u hj hu
    refine ⟨u, ?_, ?_, ho2.at, ho2.nilly⟩
    · rw [Nat.zero_add, World.ownsRow.cellAt ho (j * 2) (by omega)]; exact hf.1
    · rw [Nat.zero_add, World.ownsRow.cellAt ho (j * 2 + 1) (by omega)]; exact hf.2

/-- What is owned with elements of another type lies in another block. -/
theorem types_apart {w : World} {B B' : Nat} {e e' : TypeId} {size size' : Nat} {v v' : Value} {n n' : Nat} {xs xs' : List Value} (h : w.ownsRow B e size v n xs) (h' : w.ownsRow B' e' size' v' n' xs') (he : e ≠ e') :
    v.ownBlock = none ∨ v.ownBlock ≠ v'.ownBlock := by
  rcases h.2 with ⟨rfl, _⟩ | ⟨g, cap, cur, rfl, _, hg, _⟩
  · exact .inl rfl
  · rcases h'.2 with ⟨rfl, _⟩ | ⟨g', cap', cur', rfl, _, hg', _⟩
    · exact .inr (by simp [Value.ownBlock])
    · refine .inr fun e2 => he ?_
      have e3 : g = g' := by simpa [Value.ownBlock] using e2
      subst e3
      rw [hg] at hg'
      simp only [Option.some.injEq, Obj.cells.injEq] at hg'
      exact hg'.2.1

theorem lt_of_own {w : World} {B : Nat} {e : TypeId} {size : Nat} {v : Value} {n : Nat} {xs : List Value} (h : w.ownsRow B e size v n xs) {r : Option Nat} (hr : r = none ∨ ∃ k, r = some k ∧ w.heap.size ≤ k) : v.ownBlock = none ∨ v.ownBlock ≠ r := by
  rcases hv : v.ownBlock with _ | k
  · exact .inl rfl
  · right
    have := (h.lt k hv).2
    rcases hr with rfl | ⟨k', rfl, hk'⟩
    · simp
    · simp; omega

/-- The list of shapes outlives what grows elsewhere. -/
theorem OwnShps.kept {w w' : World} {B : Nat} {v : Value} {ss : List Shp} {r : Option Nat} (h : OwnShps w B v ss) (hr : r = none ∨ ∃ k, r = some k ∧ w.heap.size ≤ k) (hg : w.grownBy w' r) : OwnShps w' B v ss := by
  obtain ⟨vs, hl, ho, hi⟩ := h
  exact ⟨vs, hl, ho.kept hg (lt_of_own ho hr), fun j s u h1 h2 => (hi j s u h1 h2).kept hg (lt_of_own (hi j s u h1 h2) hr)⟩
theorem OwnShps.heap {w w' : World} {B : Nat} {v : Value} {ss : List Shp} (h : OwnShps w B v ss) (e : w'.heap = w.heap) : OwnShps w' B v ss := by
  obtain ⟨vs, hl, ho, hi⟩ := h
  refine ⟨vs, hl, ?_, fun j s u h1 h2 => ?_⟩
  · unfold World.ownsRow at *; rw [e]; exact ho
  · have := hi j s u h1 h2; unfold OwnInts World.ownsRow at *; rw [e]; exact this

/-- One shape more, whose cells are the call's own. -/
theorem OwnShps.snoc {w w2 : World} {B : Nat} {v v' u : Value} {ss : List Shp} {s : Shp} {vs : List Value} (hl : vs.length = ss.length) (ho : w.ownsRow B 27 2 v ss.length (flat ss vs))
    (hi : ∀ (j : Nat) (s : Shp) (u : Value), ss[j]? = some s → vs[j]? = some u → OwnInts w B u s.cells) (hu : OwnInts w B u s.cells)
    (hown2 : w2.ownsRow B 27 2 v' (ss.length + 1) (flat ss vs ++ [.int .i64 s.pred, u])) (hg : w.grownBy w2 v.ownBlock) : OwnShps w2 B v' (ss ++ [s]) := by
  refine ⟨vs ++ [u], by simp [hl], ?_, fun j t x h1 h2 => ?_⟩
  · rw [flat_snoc _ _ _ _ hl, List.length_append, List.length_singleton]; exact hown2
  · have hj : j < (ss ++ [s]).length := (List.getElem?_eq_some_iff.1 h1).1
    rw [List.length_append, List.length_singleton] at hj
    by_cases e : j < ss.length
    · rw [List.getElem?_append_left e] at h1
      rw [List.getElem?_append_left (by omega)] at h2
      have := hi j t x h1 h2
      exact World.ownsRow.kept this hg (types_apart this ho (by decide))
    · obtain rfl : j = ss.length := by omega
      have e1 : (ss ++ [s])[ss.length]? = some s := by simp
      have e2 : (vs ++ [u])[ss.length]? = some u := by rw [← hl]; simp
      rw [e1] at h1; rw [e2] at h2
      obtain rfl := Option.some.inj h1
      obtain rfl := Option.some.inj h2
      exact World.ownsRow.kept hu hg (types_apart hu ho (by decide))

end Go.Proofs.Ytlandkindbmbfaa
