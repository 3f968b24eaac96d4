/-
  The walks of edictref10.Same and edictref10.within: whether two shapes are the same, whether a number stands in a list. Conditions: the cells are ints, fewer than 2^45.
-/
import Derived.Test.YtlandkindbmbfaaW2
import Derived.Test.YtlandkindbmbfaaPlain2
namespace Go.Proofs.Ytlandkindbmbfaa
open Go.RowKit Plain

/-- A value that reads as the shape s, its cells below block B. -/
def ShpAt (w : World) (B : Nat) (x : Value) (s : Shp) : Prop := ∃ v, x = .agg #[.int .i64 s.pred, v] ∧ IntsAt w B v s.cells
/-- The shape's numbers are ints, and it is no longer than memory allows. -/
structure Okay (s : Shp) : Prop where
  low : -9223372036854775808 ≤ s.pred
  high : s.pred ≤ 9223372036854775807
  ints : I64s s.cells
  len : s.cells.length ≤ 35184372088832

set_option maxRecDepth 100000 in
set_option maxHeartbeats 1600000 in
theorem within_any (l : List Int) (n : Int) (v : Value) (w : World) (hv : IntsAt w w.heap.size v l) (hl : l.length ≤ 35184372088832) :
    Calls Try.prog 62 #[v, .int .i64 n] w fun e w' => e = .returned (.bool (decide (n ∈ l))) ∧ w = w' := by
  obtain ⟨V, hV⟩ : ∃ V, V = decide (n ∈ l) := ⟨_, rfl⟩
  rw [← hV]
  have HV := Lib.hid hV
  clear hV
  obtain ⟨a, c, rfl, ha⟩ := hv
  have HA := Lib.hid ha
  clear ha
  go_enter Try.func62, Try.ntmps62
  go_wp2
  go_loop [5] (fun k => ∃ i : Nat, k = .int .i64 (i : Int) ∧ i ≤ l.length ∧ Hid (NotTo l n i)) (fun k => l.length - (intOf k).toNat)
  case atStart => exact ⟨0, rfl, Nat.zero_le _, NotTo.start l n⟩
  case round =>
    obtain ⟨i, rfl, hil, hE⟩ := hrel
    by_cases h1 : i < l.length
    · obtain ⟨g, off, rfl, hg, hc⟩ := HA.out.resolve_left (fun e => by rw [e] at h1; simp at h1)
      obtain ⟨x, hx⟩ : ∃ x, x = at' l i := ⟨_, rfl⟩
      have hA : w.cell? ⟨g, off + i, none⟩ = some (.int .i64 x) := by rw [hx]; exact hc i h1
      have h3 : (i : Int) < (l.length : Int) := by omega
      clear hc hg HA
      by_cases he : x = n
      · have HR := Lib.hid (show V = true by rw [HV.out]; exact decide_mem h1 hx he)
        subst he
        clear hx hE HV
        go_wp2
        go_ret
        exact ⟨ret_bool HR.out.symm, rfl⟩
      · have HE := Lib.hid (hE.out.round hx he)
        have hb : (x == n) = false := by simpa using he
        clear hx hE he
        go_wp2
        go_round
        case rel => exact ⟨i + 1, by go_num, by omega, HE.out⟩
        case measure => simp only [intOf]; omega
    · have e : i = l.length := by omega
      have HR := Lib.hid (show V = false by rw [HV.out]; exact decide_not (by rw [← e]; exact hE.out))
      clear e
      go_wp2
      go_ret
      exact ⟨ret_bool HR.out.symm, rfl⟩

theorem below_cells {w w' : World} {B : Nat} (h : Below B w w') {p : Addr} {v : Value} (hp : p.block < B) (hc : w.cell? p = some v) : w'.cell? p = some v := (h.cell hp).trans hc

set_option maxRecDepth 100000 in
set_option maxHeartbeats 1600000 in
theorem refSame_any (s t : Shp) (x y : Value) (w : World) (hx : ShpAt w w.heap.size x s) (hy : ShpAt w w.heap.size y t) (hs : Okay s) (ht : Okay t) :
    Calls Try.prog 27 #[x, y] w (BoolIs w (sameB s t)) := by
  obtain ⟨V, hV⟩ : ∃ V, V = sameB s t := ⟨_, rfl⟩
  rw [← hV]
  have HV := Lib.hid hV
  clear hV
  obtain ⟨vl, rfl, a, ca, rfl, ha⟩ := hx
  obtain ⟨vm, rfl, b, cb, rfl, hb⟩ := hy
  have HA := Lib.hid ha
  have HB := Lib.hid hb
  have hls := hs.len
  have hlt := ht.len
  clear ha hb hs ht
  by_cases hp : s.pred = t.pred
  · by_cases hl : s.cells.length = t.cells.length
    · have hpn : (s.pred != t.pred) = false := by simp [hp]
      have hln : ((s.cells.length : Int) != (s.cells.length : Int)) = false := by simp
      have HP := Lib.hid hp
      have HL := Lib.hid hl
      rw [← hl] at hlt ⊢
      clear hp hl
      go_enter Try.func27, Try.ntmps27
      go_wp2
      clear hpn hln
      generalize hW0 : (w.alloc (.cells #[.int .i64 s.pred, .slice a s.cells.length ca] 27)).alloc (.cells #[.int .i64 t.pred, .slice b s.cells.length cb] 27) = W0
      have hz0 : W0.heap.size = w.heap.size + 2 := by rw [← hW0]; simp
      have hb0 : Below w.heap.size w W0 := by rw [← hW0]; exact ((Below.refl _ _).alloc (Nat.le_refl _) _).alloc (by simp) _
      have cx : W0.cell? ⟨w.heap.size, 1, none⟩ = some (.slice a s.cells.length ca) := by rw [← hW0]; simp
      have cy : W0.cell? ⟨w.heap.size + 1, 1, none⟩ = some (.slice b s.cells.length cb) := by rw [← hW0]; simp
      have CX := Lib.hid cx
      have CY := Lib.hid cy
      have HB0 := Lib.hid hb0
      clear hW0 hb0 cx cy
      go_loopw [5] (fun k wr => ∃ i : Nat, k = .int .i64 (i : Int) ∧ i ≤ s.cells.length ∧ Below (w.heap.size + 2) W0 wr ∧ Hid (EqTo s.cells t.cells i)) (fun k _ => s.cells.length - (intOf k).toNat)
      case atStart => exact ⟨0, rfl, Nat.zero_le _, Below.refl _ _, EqTo.start _ _⟩
      case round =>
        obtain ⟨i, rfl, hil, hnx, hE⟩ := hrel
        have c1 : wr.cell? ⟨w.heap.size, 1, none⟩ = some (.slice a s.cells.length ca) := below_cells hnx (by simp) CX.out
        have c2 : wr.cell? ⟨w.heap.size + 1, 1, none⟩ = some (.slice b s.cells.length cb) := below_cells hnx (by simp) CY.out
        have NX := Lib.hid hnx
        clear hnx
        by_cases h1 : i < s.cells.length
        · obtain ⟨g, off, rfl, hg, hc⟩ := HA.out.resolve_left (fun e => by rw [e] at h1; simp at h1)
          obtain ⟨g2, off2, rfl, hg2, hd⟩ := HB.out.resolve_left (fun e => by rw [HL.out, e] at h1; simp at h1)
          obtain ⟨x, hx⟩ : ∃ x, x = at' s.cells i := ⟨_, rfl⟩
          obtain ⟨y, hy⟩ : ∃ y, y = at' t.cells i := ⟨_, rfl⟩
          have hA : wr.cell? ⟨g, off + i, none⟩ = some (.int .i64 x) := by
            rw [hx]; exact below_cells NX.out (by simp; omega) (below_cells HB0.out (by simpa using hg) (hc i h1))
          have hB : wr.cell? ⟨g2, off2 + i, none⟩ = some (.int .i64 y) := by
            rw [hy]; exact below_cells NX.out (by simp; omega) (below_cells HB0.out (by simpa using hg2) (hd i (by rw [← HL.out]; exact h1)))
          clear hc hd hg hg2 HA HB
          by_cases he : x = y
          · have HE := Lib.hid (hE.out.round hx hy he)
            have hb : (x != x) = false := by simp
            subst he
            clear hx hy hE
            go_wp2_with fail
            go_quiet (fail)
            generalize hW : wr.drewN _ = w2
            have hnx2 : Below (w.heap.size + 2) W0 w2 := by rw [← hW]; exact below_drewN NX.out
            clear hW hA hB hb NX
            go_wp2
            go_roundw
            case rel => exact ⟨i + 1, by go_num, by omega, hnx2, HE.out⟩
            case measure => simp only [intOf]; omega
          · have HR := Lib.hid (show V = false by rw [HV.out]; exact sameB_at hx hy he)
            have hb : (x != y) = true := by simpa using he
            clear hx hy hE he HV
            go_wp2_with fail
            go_quiet (fail)
            generalize hW : wr.drewN _ = w2
            have hnx2 : Below (w.heap.size + 2) W0 w2 := by rw [← hW]; exact below_drewN NX.out
            clear hW hA hB NX
            go_wp2
            go_ret
            exact ⟨ret_bool HR.out.symm, HB0.out.trans (hnx2.mono (by omega))⟩
        · have e : i = s.cells.length := by omega
          have HR := Lib.hid (show V = true by rw [HV.out]; exact sameB_true HP.out HL.out (by rw [← e]; exact hE.out))
          clear e
          go_wp2
          go_ret
          exact ⟨ret_bool HR.out.symm, HB0.out.trans (NX.out.mono (by omega))⟩
    · have hpn : (s.pred != t.pred) = false := by simp [hp]
      have hln : ((s.cells.length : Int) != (t.cells.length : Int)) = true := by simp; omega
      have HR := Lib.hid (show V = false by rw [HV.out]; exact sameB_len hl)
      clear hp hl HV
      go_enter Try.func27, Try.ntmps27
      go_wp2
      go_ret
      exact ⟨ret_bool HR.out.symm, ((Below.refl _ _).alloc (Nat.le_refl _) _).alloc (by simp) _⟩
  · have hpn : (s.pred != t.pred) = true := by simpa using hp
    have HR := Lib.hid (show V = false by rw [HV.out]; exact sameB_pred hp)
    clear hp HV
    go_enter Try.func27, Try.ntmps27
    go_wp2
    go_ret
    exact ⟨ret_bool HR.out.symm, ((Below.refl _ _).alloc (Nat.le_refl _) _).alloc (by simp) _⟩

end Go.Proofs.Ytlandkindbmbfaa
