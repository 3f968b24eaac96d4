/-
  The walks of edictlaw10.ints and edictref10.Same: each answers whether the two are the same. Conditions: the lists are of ints, fewer than 2^45.
-/
import Derived.Test.YtlandkindbmbfaaW1
namespace Go.Proofs.Ytlandkindbmbfaa
open Go.RowKit Plain

theorem below_drewN {B n : Nat} {a w : World} (h : Below B a w) : Below B a (w.drewN n) := ⟨h.os, h.tape, h.output, h.size, h.block⟩

set_option maxRecDepth 100000 in
set_option maxHeartbeats 1600000 in
theorem ints_any (l m : List Int) (v u : Value) (w : World) (hv : IntsAt w w.heap.size v l) (hu : IntsAt w w.heap.size u m) (hl : l.length ≤ 35184372088832) (hm : m.length ≤ 35184372088832) :
    Calls Try.prog 21 #[v, u] w (BoolIs w (decide (l = m))) := by
  obtain ⟨V, hV⟩ : ∃ V, V = decide (l = m) := ⟨_, rfl⟩
  rw [← hV]
  have HV := Lib.hid hV
  clear hV
  obtain ⟨a, c, rfl, ha⟩ := hv
  obtain ⟨b, d, rfl, hb⟩ := hu
  by_cases hlm : l.length = m.length
  · rw [← hlm]
    rw [← hlm] at hb
    clear hm
    by_cases h0 : l = []
    · subst h0
      have hm0 : m = [] := List.length_eq_zero_iff.1 (by simpa using hlm.symm)
      subst hm0
      have HR := Lib.hid (show V = true by rw [HV.out]; rfl)
      clear ha hb hlm HV
      go_enter Try.func21, Try.ntmps21
      go_wp2
      refine wp_loop_rounds 1 ?_
      rw [rounds_succ]
      go_wp2
      go_ret
      exact ⟨ret_bool HR.out.symm, Below.refl _ _⟩
    · have h0' : m ≠ [] := fun e => h0 (List.length_eq_zero_iff.1 (by rw [hlm, e]; rfl))
      obtain ⟨g, off, rfl, hg, hc⟩ := ha.resolve_left h0
      obtain ⟨h, off2, rfl, hh, hd⟩ := hb.resolve_left h0'
      have HLM := Lib.hid hlm
      have hne : ((l.length : Int) != (l.length : Int)) = false := by simp
      clear ha hb h0 h0' hlm
      go_enter Try.func21, Try.ntmps21
      go_wp2
      clear hne
      go_loopw [5] (fun k wr => ∃ i : Nat, k = .int .i64 (i : Int) ∧ i ≤ l.length ∧ Below w.heap.size w wr ∧ Hid (EqTo l m i)) (fun k _ => l.length - (intOf k).toNat)
      case atStart => exact ⟨0, rfl, Nat.zero_le _, Below.refl _ _, EqTo.start l m⟩
      case round =>
        obtain ⟨i, rfl, hil, hnx, hE⟩ := hrel
        by_cases h1 : i < l.length
        · obtain ⟨x, hx⟩ : ∃ x, x = at' l i := ⟨_, rfl⟩
          obtain ⟨y, hy⟩ : ∃ y, y = at' m i := ⟨_, rfl⟩
          have hA : wr.cell? ⟨g, off + i, none⟩ = some (.int .i64 x) := by rw [hx]; exact (hnx.cell (p := ⟨g, off + i, none⟩) hg).trans (hc i h1)
          have hB : wr.cell? ⟨h, off2 + i, none⟩ = some (.int .i64 y) := by rw [hy]; exact (hnx.cell (p := ⟨h, off2 + i, none⟩) hh).trans (hd i h1)
          have h3 : (i : Int) < (l.length : Int) := by omega
          by_cases he : x = y
          · have HE := Lib.hid (hE.out.round hx hy he)
            have hb : (x != x) = false := by simp
            subst he
            clear hx hy hc hd hE
            go_wp2_with fail
            go_quiet (fail)
            generalize hW : wr.drewN _ = w2
            have hnx2 : Below w.heap.size w w2 := by rw [← hW]; exact below_drewN hnx
            clear hW hA hB hnx hb
            go_wp2
            go_roundw
            case rel => exact ⟨i + 1, by go_num, by omega, hnx2, HE.out⟩
            case measure => simp only [intOf]; omega
          · have HR := Lib.hid (show V = false by rw [HV.out]; exact decide_at hx hy he)
            have hb : (x != y) = true := by simpa using he
            clear hx hy hc hd hE he HV
            go_wp2_with fail
            go_quiet (fail)
            generalize hW : wr.drewN _ = w2
            have hnx2 : Below w.heap.size w w2 := by rw [← hW]; exact below_drewN hnx
            clear hW hA hB hnx
            go_wp2
            go_ret
            exact ⟨ret_bool HR.out.symm, hnx2⟩
        · have e : i = l.length := by omega
          have HR := Lib.hid (show V = true by rw [HV.out]; exact decide_eq_true (eq_of_at HLM.out (by rw [← e]; exact hE.out)))
          clear e
          go_wp2
          go_ret
          exact ⟨ret_bool HR.out.symm, hnx⟩
  · have HR := Lib.hid (show V = false by rw [HV.out]; exact decide_len hlm)
    have hne : ((l.length : Int) != (m.length : Int)) = true := by simp; omega
    clear ha hb hlm HV
    go_enter Try.func21, Try.ntmps21
    go_wp2
    go_ret
    exact ⟨ret_bool HR.out.symm, Below.refl _ _⟩

end Go.Proofs.Ytlandkindbmbfaa
