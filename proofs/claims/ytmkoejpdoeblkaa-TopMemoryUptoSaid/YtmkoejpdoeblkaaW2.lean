/-
  The walks of sameRow and rowAt: whether two rows are the same, where a row stands. Conditions: the lists within the form's own reach.
-/
import Derived.Test.YtmkoejpdoeblkaaW1
namespace Go.Proofs.Ytmkoejpdoeblkaa
open Go.RowKit Pl

set_option maxRecDepth 100000 in
set_option maxHeartbeats 1600000 in
theorem sameRow_any (s t : Rw) (x y : Value) (w : World) (hx : RowIn w All x s) (hy : RowIn w All y t) (hls : s.2.length ≤ 1048576) (hlt : t.2.length ≤ 1048576) :
    Calls Try.prog 17 #[x, y] w (BoolIs w (decide (s = t))) := by
  obtain ⟨V, hV⟩ : ∃ V, V = decide (s = t) := ⟨_, rfl⟩
  rw [← hV]
  have HV := Lib.hid hV
  clear hV
  obtain ⟨vl, rfl, hx⟩ := hx
  obtain ⟨vm, rfl, hy⟩ := hy
  obtain ⟨a, ca, rfl, hfa⟩ := hx.form
  obtain ⟨b, cb, rfl, hfb⟩ := hy.form
  have HA := Lib.hid hx
  have HB := Lib.hid hy
  have HFA := Lib.hid hfa
  have HFB := Lib.hid hfb
  clear hx hy hfa hfb
  obtain ⟨p, l⟩ := s
  obtain ⟨q, m⟩ := t
  simp only at HV HA HB HFA HFB hls hlt ⊢
  by_cases hp : p = q
  · by_cases hl : l.length = m.length
    · have hpn : (p != p) = false := by simp
      have hln : ((l.length : Int) != (l.length : Int)) = false := by simp
      subst hp
      have HL := Lib.hid hl
      rw [← hl] at hlt ⊢
      rw [← hl] at HB
      clear hl
      go_enter Try.func17, Try.ntmps17
      go_wp2
      clear hpn hln
      generalize hW0 : (w.alloc (.cells #[.int .i64 p, .slice a l.length ca] 34)).alloc (.cells #[.int .i64 p, .slice b l.length cb] 34) = W0
      have hz0 : W0.heap.size = w.heap.size + 2 := by rw [← hW0]; simp
      have hb0 : Below w.heap.size w W0 := by rw [← hW0]; exact ((Below.refl _ _).alloc (Nat.le_refl _) _).alloc (by simp) _
      have cx : W0.cell? ⟨w.heap.size, 1, none⟩ = some (.slice a l.length ca) := by rw [← hW0]; simp
      have cy : W0.cell? ⟨w.heap.size + 1, 1, none⟩ = some (.slice b l.length cb) := by rw [← hW0]; simp
      have CX := Lib.hid cx
      have CY := Lib.hid cy
      have HB0 := Lib.hid hb0
      clear hW0 hb0 cx cy
      go_loopw [23] (fun k wr => ∃ i : Nat, k = .int .i64 (i : Int) ∧ i ≤ l.length ∧ Below W0.heap.size W0 wr ∧ Hid (EqTo l m i)) (fun k _ => l.length - (intOf k).toNat)
      case atStart => exact ⟨0, rfl, Nat.zero_le _, Below.refl _ _, EqTo.start _ _⟩
      case round =>
        obtain ⟨i, rfl, hil, hnx, hE⟩ := hrel
        have c1 : wr.cell? ⟨w.heap.size, 1, none⟩ = some (.slice a l.length ca) := (hnx.cell (p := ⟨w.heap.size, 1, none⟩) (by simp; omega)).trans CX.out
        have c2 : wr.cell? ⟨w.heap.size + 1, 1, none⟩ = some (.slice b l.length cb) := (hnx.cell (p := ⟨w.heap.size + 1, 1, none⟩) (by simp; omega)).trans CY.out
        have NX := Lib.hid hnx
        clear hnx
        by_cases h1 : i < l.length
        · obtain ⟨g, off, rfl⟩ := HFA.out (fun e => by rw [e] at h1; simp at h1)
          obtain ⟨g2, off2, rfl⟩ := HFB.out (fun e => by have := HL.out; rw [e] at this; rw [this] at h1; simp at h1)
          obtain ⟨x, hx⟩ : ∃ x, x = at' l i := ⟨_, rfl⟩
          obtain ⟨y, hy⟩ : ∃ y, y = at' m i := ⟨_, rfl⟩
          have hA : wr.cell? ⟨g, off + i, none⟩ = some (.int .i64 x) := by
            rw [hx]; exact ((HA.out.below HB0.out).below NX.out).at h1
          have hB : wr.cell? ⟨g2, off2 + i, none⟩ = some (.int .i64 y) := by
            rw [hy]
            have := (HB.out.below HB0.out).below NX.out
            rw [HL.out] at this
            exact this.at (by have := HL.out; omega)
          by_cases he : x = y
          · have HE := Lib.hid (hE.out.round hx hy he)
            have hb : (x != x) = false := by simp
            subst he
            clear hx hy hE
            go_wp2_with fail
            go_quiet (fail)
            generalize hW : wr.drewN _ = w2
            have hnx2 : Below W0.heap.size W0 w2 := by rw [← hW]; exact below_drewN NX.out
            clear hW hA hB hb NX
            go_wp2
            go_roundw
            case rel => exact ⟨i + 1, by go_num, by omega, hnx2, HE.out⟩
            case measure => simp only [intOf]; omega
          · have HR := Lib.hid (show V = false by rw [HV.out]; exact decide_eq_false (fun e => EqTo.not hx hy he (by simpa using e)))
            have hb : (x != y) = true := by simpa using he
            clear hx hy hE he HV
            go_wp2_with fail
            go_quiet (fail)
            generalize hW : wr.drewN _ = w2
            have hnx2 : Below W0.heap.size W0 w2 := by rw [← hW]; exact below_drewN NX.out
            clear hW hA hB NX
            go_wp2
            go_ret
            exact ⟨ret_bool HR.out.symm, HB0.out.trans (hnx2.mono (by omega))⟩
        · have e : i = l.length := by omega
          have HR := Lib.hid (show V = true by rw [HV.out]; exact decide_eq_true (by rw [EqTo.full HL.out (by rw [← e]; exact hE.out)]))
          clear e
          go_wp2
          go_ret
          exact ⟨ret_bool HR.out.symm, HB0.out.trans (NX.out.mono (by omega))⟩
    · have hpn : (p != p) = false := by simp
      subst hp
      have hln : ((l.length : Int) != (m.length : Int)) = true := by simp; omega
      have HR := Lib.hid (show V = false by rw [HV.out]; exact decide_eq_false (fun e => hl (by simp at e; rw [e])))
      clear hl HV
      go_enter Try.func17, Try.ntmps17
      go_wp2
      go_ret
      exact ⟨ret_bool HR.out.symm, ((Below.refl _ _).alloc (Nat.le_refl _) _).alloc (by simp) _⟩
  · have hpn : (p != q) = true := by simpa using hp
    have HR := Lib.hid (show V = false by rw [HV.out]; exact decide_eq_false (fun e => hp (by simp at e; exact e.1)))
    clear hp HV
    go_enter Try.func17, Try.ntmps17
    go_wp2
    go_ret
    exact ⟨ret_bool HR.out.symm, ((Below.refl _ _).alloc (Nat.le_refl _) _).alloc (by simp) _⟩

def IntIs (w : World) (n : Int) (e : Ending) (w' : World) : Prop := e = .returned (.int .i64 n) ∧ Below w.heap.size w w'
theorem ret_int {b c : Int} (h : b = c) : Ending.returned (.int .i64 b) = .returned (.int .i64 c) := by rw [h]

set_option maxRecDepth 100000 in
set_option maxHeartbeats 1600000 in
theorem rowAt_any (l : List Rw) (r : Rw) (x y : Value) (w : World) (hx : RowsIn w All x l) (hy : RowIn w All y r) (hl : l.length ≤ 2097152) (hs : ∀ s ∈ l, s.2.length ≤ 1048576) (hr : r.2.length ≤ 1048576) :
    Calls Try.prog 7 #[x, y] w (IntIs w (rowNo l r)) := by
  obtain ⟨V, hV⟩ : ∃ V, V = rowNo l r := ⟨_, rfl⟩
  rw [← hV]
  have HV := Lib.hid hV
  clear hV
  obtain ⟨a, ca, rfl, hfa⟩ := hx.form
  have HX := Lib.hid hx
  have HFA := Lib.hid hfa
  have HS := Lib.hid hs
  obtain ⟨u, rfl, hu⟩ := hy
  have HU := Lib.hid hu
  clear hx hfa hu hs
  go_enter Try.func7, Try.ntmps7
  go_wp2
  obtain ⟨W0, hW0⟩ : ∃ W0, W0 = w.alloc (.cells #[.int .i64 r.1, u] 34) := ⟨_, rfl⟩
  rw [← hW0]
  have hz0 : W0.heap.size = w.heap.size + 1 := by rw [hW0]; simp
  have hb0 : Below w.heap.size w W0 := by rw [hW0]; exact up_alloc _ _
  have cx : W0.heap[w.heap.size]? = some (.cells #[.int .i64 r.1, u] 34) := by rw [hW0]; exact heap_alloc_new _ _
  have CX := Lib.hid cx
  have HB0 := Lib.hid hb0
  clear hW0 hb0 cx
  go_loopw [8] (fun k wr => ∃ i : Nat, k = .int .i64 (i : Int) ∧ i ≤ l.length ∧ Below W0.heap.size W0 wr ∧ Hid (r ∉ l.take i)) (fun k _ => l.length - (intOf k).toNat)
  case atStart => exact ⟨0, rfl, Nat.zero_le _, Below.refl _ _, Lib.hid (by simp)⟩
  case round =>
    obtain ⟨i, rfl, hil, hnx, hE⟩ := hrel
    have hh : wr.heap[w.heap.size]? = some (.cells #[.int .i64 r.1, u] 34) := by rw [hnx.block _ (by omega)]; exact CX.out
    have c0 : wr.cell? ⟨w.heap.size, 0, none⟩ = some (.int .i64 r.1) := by simp only [World.cell?, hh]; rfl
    have c1 : wr.cell? ⟨w.heap.size, 1, none⟩ = some u := by simp only [World.cell?, hh]; rfl
    have NX := Lib.hid hnx
    clear hnx hh
    by_cases h1 : i < l.length
    · obtain ⟨g, off, rfl⟩ := HFA.out (fun e => by rw [e] at h1; simp at h1)
      obtain ⟨s, hsi⟩ : ∃ s, l[i]? = some s := ⟨l[i], List.getElem?_eq_getElem h1⟩
      have hXr := (HX.out.below HB0.out).below NX.out
      obtain ⟨us, d0, d1, hus⟩ := hXr.at hsi
      have hUr := (HU.out.below HB0.out).below NX.out
      have HUS := Lib.hid hus
      have HUR := Lib.hid hUr
      have HSI := Lib.hid hsi
      have HSL := Lib.hid (HS.out s (List.mem_of_getElem? hsi))
      clear hXr hus hUr hsi
      go_wp2_with fail
      go_still_tail 5, (by kernel_rfl)
      change wpList _ _ _ _ _ wr.drew
      generalize hW : wr.drew = w2
      have NX2 := Lib.hid (show Below W0.heap.size W0 w2 by rw [← hW]; exact below_drewN (n := 1) NX.out)
      have HUS2 := Lib.hid (HUS.out.heap (w' := w2) (by rw [← hW]; rfl))
      have HUR2 := Lib.hid (HUR.out.heap (w' := w2) (by rw [← hW]; rfl))
      clear hW c0 c1 d0 d1 HUS HUR NX
      go_wp2_with fail
      refine (sameRow_any s r _ _ _ ⟨us, rfl, HUS2.out⟩ ⟨u, rfl, HUR2.out⟩ HSL.out hr).mono ?_
      rintro e w3 ⟨rfl, hb3⟩
      have NX3 := Lib.hid (NX2.out.trans (hb3.mono NX2.out.size))
      clear hb3
      by_cases he : s = r
      · have hd : decide (s = r) = true := decide_eq_true he
        have HR := Lib.hid (show V = (i : Int) by rw [HV.out]; exact rowNo_at hE.out (by rw [HSI.out, he]))
        clear he HV
        go_wp2
        go_ret
        exact ⟨ret_int HR.out.symm, HB0.out.trans (NX3.out.mono (by omega))⟩
      · have hd : decide (s = r) = false := decide_eq_false he
        have HE := Lib.hid (not_take_succ HSI.out hE.out he)
        clear he hE
        go_wp2
        go_roundw
        case rel => exact ⟨i + 1, by go_num, by omega, NX3.out, HE⟩
        case measure => simp only [intOf]; omega
    · have e : i = l.length := by omega
      have HR := Lib.hid (show V = -1 by rw [HV.out]; exact rowNo_none (by have := hE.out; rw [e, List.take_length] at this; exact this))
      clear e
      go_wp2
      go_ret
      exact ⟨ret_int HR.out.symm, HB0.out.trans (NX.out.mono (by omega))⟩
end Go.Proofs.Ytmkoejpdoeblkaa
