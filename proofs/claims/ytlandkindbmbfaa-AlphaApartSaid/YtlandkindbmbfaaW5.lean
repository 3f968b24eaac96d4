/-
  The walks of edictref10.Loosest and edictref10.Covers: the loosest row of a shape; whether one shape covers another. Conditions: the numbers are ints, the lists fewer than 2^44.
-/
import Derived.Test.YtlandkindbmbfaaW4
namespace Go.Proofs.Ytlandkindbmbfaa
open Go.RowKit Plain

/-- The cells of a list of ints. -/
def lits (l : List Int) : List Value := l.map fun d => Value.int .i64 d
theorem lits_length (l : List Int) : (lits l).length = l.length := List.length_map _
theorem lits_snoc (l : List Int) (d : Int) : lits (l ++ [d]) = lits l ++ [.int .i64 d] := by simp [lits]
theorem lits_append (l m : List Int) : lits (l ++ m) = lits l ++ lits m := by simp [lits]
theorem lits_get (l : List Int) (i : Nat) (h : i < l.length) : (lits l)[i]? = some (.int .i64 (at' l i)) := by
  simp [lits, at', List.getElem?_eq_getElem h]
theorem Try.info3 : (Try.prog.info? 3).map (fun i => (i.zero, i.size, i.bytes)) = some (some (.int .i64 0), 1, 8) := by kernel_rfl
theorem one_i64 (x : Int) : ∀ u ∈ [Value.int .i64 x], u.oneCell' = true := by intro u hu; simp at hu; subst hu; rfl

/-- A row of ints of the call's own, from block B on. -/
def OwnInts (w : World) (B : Nat) (v : Value) (l : List Int) : Prop := w.ownsRow B 3 1 v l.length (lits l)
theorem OwnInts.nil (w : World) (B : Nat) : OwnInts w B (.slice none 0 0) [] := World.ownsRow_nil _ _ _ _
theorem OwnInts.at {w : World} {B : Nat} {v : Value} {l : List Int} (h : OwnInts w B v l) : IntsAt w w.heap.size v l := by
  rcases Joins.ownsRow_forms h with ⟨rfl, h0⟩ | ⟨g, cap, rfl⟩
  · obtain rfl := List.length_eq_zero_iff.1 h0
    exact ⟨none, 0, rfl, .inl rfl⟩
  · refine ⟨_, cap, rfl, .inr ⟨g, 0, rfl, (h.lt g rfl).2, fun j hj => ?_⟩⟩
    rw [Nat.zero_add, World.ownsRow.cellAt h j (by omega)]; exact lits_get l j hj
theorem OwnInts.cell {w : World} {B g cap : Nat} {l : List Int} (h : OwnInts w B (.slice (some ⟨g, 0, none⟩) l.length cap) l) {j : Nat} (hj : j < l.length) : w.cell? ⟨g, 0 + j, none⟩ = some (.int .i64 (at' l j)) := by
  rw [Nat.zero_add, World.ownsRow.cellAt h j (by omega)]; exact lits_get l j hj

theorem own_snoc {B : Nat} {w wr w1 : World} {v v' : Value} {l : List Int} {x : Int} {o : Obj} (hB : B ≤ wr.heap.size)
    (hown : OwnInts wr B v l) (hnx : Below B w wr)
    (hown' : w1.ownsRow B 3 1 v' (l.length + 1) (lits l ++ [.int .i64 x])) (hgrow : (wr.alloc o).grownBy w1 v.ownBlock) :
    OwnInts w1 B v' (l ++ [x]) ∧ Below B w w1 := by
  refine ⟨by unfold OwnInts; rw [lits_snoc, List.length_append, List.length_singleton]; exact hown', ?_⟩
  exact (hnx.alloc hB o).grown hgrow (by simp; omega) (fun j hj => (hown.lt j hj).1)

def LooseIs (s t : Shp) (w : World) (e : Ending) (w' : World) : Prop :=
  ∃ (v : Value) (row : List Int) (n : Int), e = .returned v ∧ IntsAt w' w'.heap.size v row ∧ Below w.heap.size w w' ∧ row.length = t.cells.length ∧ Loose s.cells t.cells row n

def LooseRel (a b : List Int) (W0 : World) (v x k : Value) (wr : World) : Prop :=
  ∃ (row : List Int) (n : Nat), x = .int .i64 (n : Int) ∧ k = .int .i64 (row.length : Int) ∧ row.length ≤ b.length ∧ OwnInts wr W0.heap.size v row ∧ Below W0.heap.size W0 wr ∧ Loose a b row n ∧ Near a b row.length n

set_option maxRecDepth 100000 in
set_option maxHeartbeats 3200000 in
theorem loosest_any (s t : Shp) (x y : Value) (w : World) (hx : ShpAt w w.heap.size x s) (hy : ShpAt w w.heap.size y t) (hs : Okay s) (ht : Okay t) (ht2 : t.cells.length ≤ 17592186044400) (hvb : validB t = true) :
    Calls Try.prog 52 #[x, y] w (LooseIs s t w) := by
  obtain ⟨i0, qi, q0, q1, q2⟩ := info_parts Try.info3
  obtain ⟨v, rfl, hv⟩ := hx
  obtain ⟨u, rfl, hu⟩ := hy
  obtain ⟨a, ca, rfl, ha⟩ := hv
  obtain ⟨b, cb, rfl, hb⟩ := hu
  have HA := Lib.hid ha
  have HU := Lib.hid hb
  have hsl := hs.len
  have HVB := Lib.hid hvb
  obtain ⟨W0, hW0⟩ : ∃ W0, W0 = (w.alloc (.cells #[.int .i64 s.pred, .slice a s.cells.length ca] 27)).alloc (.cells #[.int .i64 t.pred, .slice b t.cells.length cb] 27) := ⟨_, rfl⟩
  have hz0 : W0.heap.size = w.heap.size + 2 := by rw [hW0]; simp
  have hb0 : Below w.heap.size w W0 := by rw [hW0]; exact ((Below.refl _ _).alloc (Nat.le_refl _) _).alloc (by simp) _
  have cx : W0.cell? ⟨w.heap.size, 1, none⟩ = some (.slice a s.cells.length ca) := by rw [hW0]; simp
  have cy : W0.cell? ⟨w.heap.size + 1, 1, none⟩ = some (.slice b t.cells.length cb) := by rw [hW0]; simp
  have HB0 := Lib.hid hb0
  have HX := Lib.hid cx
  have HY := Lib.hid cy
  have HZ := Lib.hid hz0
  clear ha hb hb0 cx cy hvb
  go_enter Try.func52, Try.ntmps52
  go_wp2
  rw [← hW0]
  clear hW0
  go_loopw [5, 6, 7] (fun v n k wr => LooseRel s.cells t.cells W0 v n k wr) (fun _ _ k _ => t.cells.length - (intOf k).toNat)
  case atStart => exact ⟨[], 0, rfl, rfl, Nat.zero_le _, OwnInts.nil _ _, Below.refl _ _, Loose.start _ _ _, Near.start _ _⟩
  case round =>
    obtain ⟨row, n, rfl, rfl, hil, hown, hnx, hL, hN⟩ := hrel
    have NX := Lib.hid hnx
    have hsz := hnx.size
    have hcx := below_cells hnx (p := ⟨w.heap.size, 1, none⟩) (by simp; omega) HX.out
    have hcy := below_cells hnx (p := ⟨w.heap.size + 1, 1, none⟩) (by simp; omega) HY.out
    have hnb := hN.le
    clear hnx
    by_cases h1 : row.length < t.cells.length
    · obtain ⟨g2, off2, rfl, hg2, hd⟩ := HU.out.resolve_left (fun e => by rw [e] at h1; simp at h1)
      obtain ⟨c, hc⟩ : ∃ c, c = at' t.cells row.length := ⟨_, rfl⟩
      have hB : wr.cell? ⟨g2, off2 + row.length, none⟩ = some (.int .i64 c) := by
        rw [hc]; exact below_cells (HB0.out.trans (NX.out.mono (by omega))) (by simpa using hg2) (hd _ h1)
      have hcb : -9223372036854775808 ≤ c ∧ c ≤ 9223372036854775807 := by rw [hc]; exact ht.ints _
      have HUT := Lib.hid (show IntsAt wr wr.heap.size (.slice (some ⟨g2, off2, none⟩) t.cells.length cb) t.cells from
        ((IntsAt.cells (.inr ⟨g2, off2, rfl, hg2, hd⟩)).below (HB0.out.trans (NX.out.mono (by omega)))).mono (by omega))
      have HUS := Lib.hid (show IntsAt wr wr.heap.size (.slice a s.cells.length ca) s.cells from
        ((IntsAt.cells HA.out).below (HB0.out.trans (NX.out.mono (by omega)))).mono (by omega))
      clear hd HU
      by_cases h2 : 0 ≤ c
      · have HL := Lib.hid (hL.round_const hc h2)
        have HN := Lib.hid hN.row
        clear hL hN hc
        go_wp2_with (at_builtin; refine wpList_append_own _ rfl _ _ 25 rfl W0.heap.size 3 i0 (.int .i64 0) 1 8 Try.underlying25 qi q0 q1 q2 rfl (by decide) _ _ _ rfl (hown.alloc _) ⟨wr.heap.size, 0, none⟩ 1 1 [.int .i64 c] rfl rfl (cell_one_new _ _ _) (one_i64 _) (by unfold maxLen; omega) (by omega) (by simp; omega) ?_; intro v' w1 hown' hgrow _)
        have R := own_snoc hsz hown NX.out hown' hgrow
        go_roundw
        case rel => exact ⟨row ++ [c], n, rfl, by simp, by rw [List.length_append]; exact h1, R.1, R.2, HL.out, by simpa using HN.out⟩
        case measure => simp [intOf]; omega
      · obtain ⟨j, hj⟩ : ∃ j : Nat, -1 - c = (j : Int) := ⟨(-1 - c).toNat, by omega⟩
        by_cases h3 : j < row.length
        · obtain ⟨z, hz⟩ : ∃ z, z = at' row j := ⟨_, rfl⟩
          obtain ⟨gr, cr, rfl⟩ := Joins.ownsRow_form hown (by omega)
          have hC : wr.cell? ⟨gr, 0 + j, none⟩ = some (.int .i64 z) := by rw [hz]; exact OwnInts.cell hown h3
          rw [Nat.zero_add] at hC
          have HL := Lib.hid (hL.round_copy hc (by omega) hj h3 hz)
          have HN := Lib.hid hN.row
          clear hL hN hc hz
          go_wp2_with (at_builtin; refine wpList_append_own _ rfl _ _ 25 rfl W0.heap.size 3 i0 (.int .i64 0) 1 8 Try.underlying25 qi q0 q1 q2 rfl (by decide) _ _ _ rfl (hown.alloc _) ⟨wr.heap.size, 0, none⟩ 1 1 [.int .i64 z] rfl rfl (cell_one_new _ _ _) (one_i64 _) (by unfold maxLen; omega) (by omega) (by simp; omega) ?_; intro v' w1 hown' hgrow _)
          have R := own_snoc hsz hown NX.out hown' hgrow
          go_roundw
          case rel => exact ⟨row ++ [z], n, rfl, by simp, by rw [List.length_append]; exact h1, R.1, R.2, HL.out, by simpa using HN.out⟩
          case measure => simp [intOf]; omega
        · have hji : j = row.length := by
            obtain ⟨k, hk, hki, _⟩ := valid_cell HVB.out h1 (by rw [← hc]; omega)
            rw [← hc] at hk; omega
          have HC := Lib.hid hc
          have HL := Lib.hid hL
          have HN := Lib.hid hN
          clear hL hN hc
          go_wp2
          go_loop [6] (fun x => ∃ m : Nat, x = .int .i64 (m : Int) ∧ m ≤ row.length + s.cells.length + t.cells.length ∧ Hid (Loose s.cells t.cells row m ∧ Near s.cells t.cells row.length m)) (fun x => row.length + s.cells.length + t.cells.length + 1 - (intOf x).toNat)
          case atStart => exact ⟨n, rfl, hnb, HL.out, HN.out⟩
          case round =>
            obtain ⟨m, rfl, hml, hLN⟩ := hrel
            by_cases hma : (m : Int) ∈ s.cells
            · have hk := hLN.out.2.skip (.inl hma)
              have HK := Lib.hid (And.intro (hLN.out.1.next (show (m : Int) ≤ ((m + 1 : Nat) : Int) by omega)) hk)
              have hkl := hk.le
              have hdm : decide ((m : Int) ∈ s.cells) = true := decide_eq_true hma
              clear hk hLN hma
              go_wp2_with fail
              refine (within_any _ _ _ _ HUS.out hsl).mono ?_
              rintro e w' ⟨rfl, rfl⟩
              rw [hdm]
              clear hdm
              go_wp2
              go_round
              case rel => exact ⟨m + 1, by go_num, hkl, HK.out⟩
              case measure => simp only [intOf]; omega
            · by_cases hmb : (m : Int) ∈ t.cells
              · have hk := hLN.out.2.skip (.inr hmb)
                have HK := Lib.hid (And.intro (hLN.out.1.next (show (m : Int) ≤ ((m + 1 : Nat) : Int) by omega)) hk)
                have hkl := hk.le
                have hdm : decide ((m : Int) ∈ s.cells) = false := decide_eq_false hma
                have hdm2 : decide ((m : Int) ∈ t.cells) = true := decide_eq_true hmb
                clear hk hLN hma hmb
                go_wp2_with fail
                refine (within_any _ _ _ _ HUS.out hsl).mono ?_
                rintro e w' ⟨rfl, rfl⟩
                rw [hdm]
                clear hdm
                go_wp2_with fail
                refine (within_any _ _ _ _ HUT.out (by omega)).mono ?_
                rintro e w' ⟨rfl, rfl⟩
                rw [hdm2]
                clear hdm2
                go_wp2
                go_round
                case rel => exact ⟨m + 1, by go_num, hkl, HK.out⟩
                case measure => simp only [intOf]; omega
              · have HK := Lib.hid (hLN.out.1.round_fresh HC.out (by omega) hma hmb)
                have HN2 := Lib.hid hLN.out.2.took
                have hdm : decide ((m : Int) ∈ s.cells) = false := decide_eq_false hma
                have hdm2 : decide ((m : Int) ∈ t.cells) = false := decide_eq_false hmb
                clear hLN hma hmb
                go_wp2_with fail
                refine (within_any _ _ _ _ HUS.out hsl).mono ?_
                rintro e w' ⟨rfl, rfl⟩
                rw [hdm]
                clear hdm
                go_wp2_with fail
                refine (within_any _ _ _ _ HUT.out (by omega)).mono ?_
                rintro e w' ⟨rfl, rfl⟩
                rw [hdm2]
                clear hdm2
                go_wp2_with (at_builtin; refine wpList_append_own _ rfl _ _ 25 rfl W0.heap.size 3 i0 (.int .i64 0) 1 8 Try.underlying25 qi q0 q1 q2 rfl (by decide) _ _ _ rfl (hown.alloc _) ⟨wr.heap.size, 0, none⟩ 1 1 [.int .i64 (m : Int)] rfl rfl (cell_one_new _ _ _) (one_i64 _) (by unfold maxLen; omega) (by omega) (by simp; omega) ?_; intro v' w1 hown' hgrow _)
                have R := own_snoc hsz hown NX.out hown' hgrow
                go_roundw
                case rel => exact ⟨row ++ [(m : Int)], m + 1, by go_num, by simp, by rw [List.length_append]; exact h1, R.1, R.2, HK.out, by simpa using HN2.out⟩
                case measure => simp [intOf]; omega
    · have e : row.length = t.cells.length := by omega
      have HE := Lib.hid e
      have HL := Lib.hid hL
      clear e hL hN
      go_wp2
      go_ret
      exact ⟨_, row, n, rfl, hown.at, HB0.out.trans (NX.out.mono (by omega)), HE.out, HL.out⟩

set_option maxRecDepth 100000 in
set_option maxHeartbeats 3200000 in
theorem refCovers_any (s t : Shp) (x y : Value) (w : World) (hx : ShpAt w w.heap.size x s) (hy : ShpAt w w.heap.size y t) (hs : Okay s) (ht : Okay t) (ht2 : t.cells.length ≤ 17592186044400) :
    Calls Try.prog 15 #[x, y] w (BoolIs w (coversB s t)) := by
  obtain ⟨V, hV⟩ : ∃ V, V = coversB s t := ⟨_, rfl⟩
  rw [← hV]
  have HV := Lib.hid hV
  clear hV
  obtain ⟨v, rfl, hv⟩ := hx
  obtain ⟨u, rfl, hu⟩ := hy
  obtain ⟨a, ca, rfl, ha⟩ := hv
  obtain ⟨b, cb, rfl, hb⟩ := hu
  have hsl := hs.len
  have htl := ht.len
  obtain ⟨W0, hW0⟩ : ∃ W0, W0 = (w.alloc (.cells #[.int .i64 s.pred, .slice a s.cells.length ca] 27)).alloc (.cells #[.int .i64 t.pred, .slice b t.cells.length cb] 27) := ⟨_, rfl⟩
  have hz0 : W0.heap.size = w.heap.size + 2 := by rw [hW0]; simp
  have hb0 : Below w.heap.size w W0 := by rw [hW0]; exact ((Below.refl _ _).alloc (Nat.le_refl _) _).alloc (by simp) _
  have cx0 : W0.cell? ⟨w.heap.size, 0, none⟩ = some (.int .i64 s.pred) := by rw [hW0]; simp
  have cy0 : W0.cell? ⟨w.heap.size + 1, 0, none⟩ = some (.int .i64 t.pred) := by rw [hW0]; simp
  have cx : W0.cell? ⟨w.heap.size, 1, none⟩ = some (.slice a s.cells.length ca) := by rw [hW0]; simp
  have cy : W0.cell? ⟨w.heap.size + 1, 1, none⟩ = some (.slice b t.cells.length cb) := by rw [hW0]; simp
  have HB0 := Lib.hid hb0
  have HX0 := Lib.hid cx0
  have HY0 := Lib.hid cy0
  have HX := Lib.hid cx
  have HY := Lib.hid cy
  have SA : ∀ w1, Below W0.heap.size W0 w1 → IntsAt w1 w1.heap.size (.slice a s.cells.length ca) s.cells :=
    fun w1 h1 => (((IntsAt.cells ha).below hb0).below (h1.mono (by omega))).mono (by have := h1.size; omega)
  have TA : ∀ w1, Below W0.heap.size W0 w1 → IntsAt w1 w1.heap.size (.slice b t.cells.length cb) t.cells :=
    fun w1 h1 => (((IntsAt.cells hb).below hb0).below (h1.mono (by omega))).mono (by have := h1.size; omega)
  have HC := Lib.hid (refValid_any s (.slice a s.cells.length ca) W0 (SA W0 (Below.refl _ _)) hs.ints hsl)
  have SA := Lib.hid SA
  have TA := Lib.hid TA
  clear ha hb hb0 cx cy cx0 cy0
  go_enter Try.func15, Try.ntmps15
  go_wp2_with fail
  rw [← hW0]
  clear hW0
  refine HC.out.mono ?_
  rintro e w1 ⟨rfl, hb1⟩
  have N1 := Lib.hid hb1
  clear hb1 HC
  by_cases hva : validB s = true
  · have HVA := Lib.hid hva
    rw [hva]
    clear hva
    have cy0 : w1.cell? ⟨w.heap.size + 1, 0, none⟩ = some (.int .i64 t.pred) := below_cells N1.out (by simp; omega) HY0.out
    have cy : w1.cell? ⟨w.heap.size + 1, 1, none⟩ = some (.slice b t.cells.length cb) := below_cells N1.out (by simp; omega) HY.out
    go_wp2_with fail
    refine (refValid_any t (.slice b t.cells.length cb) w1 (TA.out w1 N1.out) ht.ints htl).mono ?_
    rintro e w2 ⟨rfl, hb2⟩
    clear cy0 cy
    have N2 := Lib.hid (N1.out.trans (hb2.mono N1.out.size))
    clear N1 hb2
    have cx0 : w2.cell? ⟨w.heap.size, 0, none⟩ = some (.int .i64 s.pred) := below_cells N2.out (by simp; omega) HX0.out
    have cx : w2.cell? ⟨w.heap.size, 1, none⟩ = some (.slice a s.cells.length ca) := below_cells N2.out (by simp; omega) HX.out
    have cy0 : w2.cell? ⟨w.heap.size + 1, 0, none⟩ = some (.int .i64 t.pred) := below_cells N2.out (by simp; omega) HY0.out
    have cy : w2.cell? ⟨w.heap.size + 1, 1, none⟩ = some (.slice b t.cells.length cb) := below_cells N2.out (by simp; omega) HY.out
    by_cases hvb : validB t = true
    · have HVB := Lib.hid hvb
      rw [hvb]
      clear hvb
      go_wp2_with fail
      refine (loosest_any s t _ _ w2 ⟨_, rfl, SA.out w2 N2.out⟩ ⟨_, rfl, TA.out w2 N2.out⟩ hs ht ht2 HVB.out).mono ?_
      rintro e w3 ⟨v3, row, n, rfl, hrow, hb3, hrl, hL⟩
      clear cx0 cx cy0 cy
      have N3 := Lib.hid (N2.out.trans (hb3.mono N2.out.size))
      clear N2 hb3
      have cx0 : w3.cell? ⟨w.heap.size, 0, none⟩ = some (.int .i64 s.pred) := below_cells N3.out (by simp; omega) HX0.out
      have cx : w3.cell? ⟨w.heap.size, 1, none⟩ = some (.slice a s.cells.length ca) := below_cells N3.out (by simp; omega) HX.out
      have cy0 : w3.cell? ⟨w.heap.size + 1, 0, none⟩ = some (.int .i64 t.pred) := below_cells N3.out (by simp; omega) HY0.out
      have HR := Lib.hid (show fitsB s t.pred row = V by rw [HV.out]; exact hL.decides hrl HVA.out HVB.out)
      have HL := Lib.hid hL
      clear hL
      go_wp2_with fail
      refine (refFits_any s _ t.pred row v3 w3 ⟨_, rfl, SA.out w3 N3.out⟩ hs hrow (by omega)).mono ?_
      rintro e w4 ⟨rfl, hb4⟩
      rw [HR.out]
      go_wp2
      go_ret
      exact ⟨rfl, HB0.out.trans ((N3.out.trans (hb4.mono N3.out.size)).mono (by omega))⟩
    · have hvb' : validB t = false := by simpa using hvb
      have HR := Lib.hid (show V = false by rw [HV.out]; exact coversB_b hvb')
      rw [hvb']
      clear hvb hvb' HV
      go_wp2
      go_ret
      exact ⟨ret_bool HR.out.symm, HB0.out.trans (N2.out.mono (by omega))⟩
  · have hva' : validB s = false := by simpa using hva
    have HR := Lib.hid (show V = false by rw [HV.out]; exact coversB_a hva')
    rw [hva']
    clear hva hva' HV
    go_wp2
    go_ret
    exact ⟨ret_bool HR.out.symm, HB0.out.trans (N1.out.mono (by omega))⟩

end Go.Proofs.Ytlandkindbmbfaa
