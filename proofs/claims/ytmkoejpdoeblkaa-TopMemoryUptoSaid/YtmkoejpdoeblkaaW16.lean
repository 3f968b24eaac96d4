/-
  The walk of mayBe: do the rows keep to the arities? Conditions: the lists within the form's own reach.
-/
import Derived.Test.YtmkoejpdoeblkaaW15
namespace Go.Proofs.Ytmkoejpdoeblkaa
open Go.RowKit Pl

set_option maxRecDepth 100000 in
set_option maxHeartbeats 6400000 in
theorem may_any (A : List Int) (rs : List Rw) (av v : Value) (w : World) (ha : IntsIn w All av A) (hA : A.length ≤ 1048576) (hv : RowsIn w All v rs) (hok : okRows rs) (hrl : rs.length ≤ 1048576) :
    Calls Try.prog 6 #[av, v] w (BoolIs w (mayB A rs)) := by
  obtain ⟨V, hV⟩ : ∃ V, V = mayB A rs := ⟨_, rfl⟩
  rw [← hV]
  have HV := Lib.hid hV
  obtain ⟨aa, ac, rfl, haa⟩ := ha.form
  obtain ⟨a, ca, rfl, hfa⟩ := hv.form
  have HAr := Lib.hid ha
  have HAA := Lib.hid haa
  have HX := Lib.hid hv
  have HFA := Lib.hid hfa
  have HOK := Lib.hid hok
  clear ha haa hv hfa hok hV
  go_enter Try.func6, Try.ntmps6
  go_wp2
  go_loopw [11] (fun k wr => ∃ i : Nat, k = .int .i64 (i : Int) ∧ i ≤ rs.length ∧ Hid (Below w.heap.size w wr) ∧ Hid (MayTo A rs i)) (fun k _ => rs.length - (intOf k).toNat)
  case atStart => exact ⟨0, rfl, Nat.zero_le _, Lib.hid (Below.refl _ _), Lib.hid (MayTo.start _ _)⟩
  case round =>
    obtain ⟨i, rfl, hil, HBi, HE⟩ := hrel
    by_cases h1 : i < rs.length
    · obtain ⟨g, off, rfl⟩ := HFA.out (fun e => by rw [e] at h1; simp at h1)
      obtain ⟨s, hsi⟩ : ∃ s, rs[i]? = some s := ⟨rs[i], List.getElem?_eq_getElem h1⟩
      obtain ⟨us, d0, d1, hus⟩ := (HX.out.below HBi.out).at hsi
      have hoks := HOK.out s (List.mem_of_getElem? hsi)
      obtain ⟨p, l⟩ := s
      simp only at d0 d1 hus
      have hll := hoks.2.2
      simp only at hll
      have HSI := Lib.hid hsi
      obtain ⟨ua, uc, rfl, hua⟩ := hus.form
      have HUA := Lib.hid hua
      obtain ⟨c6, hc6⟩ : ∃ c6, c6 = wr.heap.size := ⟨_, rfl⟩
      obtain ⟨W1, hW1⟩ : ∃ W1, W1 = wr.alloc (.cells #[.int .i64 p, .slice ua l.length uc] 34) := ⟨_, rfl⟩
      have hb1 : Below wr.heap.size wr W1 := by rw [hW1]; exact up_alloc _ _
      have q1 : W1.heap[c6]? = some (.cells #[.int .i64 p, .slice ua l.length uc] 34) := by rw [hW1, hc6]; exact heap_alloc_new _ _
      have HU := Lib.hid (hus.below hb1)
      have HB1 := Lib.hid (HBi.out.trans (hb1.mono HBi.out.size))
      have HA1 := Lib.hid (HAr.out.below HB1.out)
      have HQ1 := Lib.hid q1
      clear hsi hus hoks hua hb1 q1
      go_upto_region 4 with fail
      rw [← hW1, ← hc6]
      clear hW1 hc6 d0 d1
      obtain ⟨x0, x1, _, _⟩ := row2 HQ1.out
      by_cases hp : p < 0
      · have hd1 : decide (p < 0) = true := decide_eq_true hp
        have HR := Lib.hid (show V = false by rw [HV.out]; exact may_not HSI.out (fits_neg hp))
        clear hp HV
        go_quiet (fail)
        generalize hW : W1.drewN _ = w2
        have NX := Lib.hid (show Below w.heap.size w w2 by rw [← hW]; exact below_drewN HB1.out)
        clear hW
        go_wp2
        go_ret
        exact ⟨ret_bool HR.out.symm, NX.out⟩
      · have hd1 : decide (p < 0) = false := decide_eq_false hp
        by_cases hq : (A.length : Int) ≤ p
        · have hd2 : decide (p ≥ (A.length : Int)) = true := decide_eq_true hq
          have HR := Lib.hid (show V = false by rw [HV.out]; exact may_not HSI.out (fits_big hq))
          clear hp hq HV
          go_quiet (fail)
          generalize hW : W1.drewN _ = w2
          have NX := Lib.hid (show Below w.heap.size w w2 by rw [← hW]; exact below_drewN HB1.out)
          clear hW
          go_wp2
          go_ret
          exact ⟨ret_bool HR.out.symm, NX.out⟩
        · have hd2 : decide (p ≥ (A.length : Int)) = false := decide_eq_false hq
          obtain ⟨q, rfl⟩ : ∃ q : Nat, p = (q : Int) := ⟨p.toNat, by omega⟩
          have hql : q < A.length := by omega
          obtain ⟨ga, oa, rfl⟩ := HAA.out (fun e => by rw [e] at hql; simp at hql)
          obtain ⟨b, haq⟩ : ∃ b, b = at' A q := ⟨_, rfl⟩
          have x3 : W1.cell? ⟨ga, oa + q, none⟩ = some (.int .i64 b) := by rw [haq]; exact HA1.out.at hql
          have HQ := Lib.hid haq
          clear haq hp hq
          by_cases hl : (l.length : Int) = b
          · subst hl
            have hd3 : ((l.length : Int) != (l.length : Int)) = false := by simp
            go_quiet (fail)
            generalize hW : W1.drewN _ = w2
            have hb2 : Below W1.heap.size W1 w2 := by rw [← hW]; exact below_drewN (Below.refl _ _)
            have x1' : w2.cell? ⟨c6, 1, none⟩ = some (.slice ua l.length uc) := by rw [← hW]; exact x1
            have HU2 := Lib.hid (HU.out.below hb2)
            have NX2 := Lib.hid (HB1.out.trans (hb2.mono HB1.out.size))
            clear hW hb2 x0 x1 x3 hd3 hd1 hd2
            go_wp2
            go_loop [39] (fun k => ∃ j : Nat, k = .int .i64 (j : Int) ∧ j ≤ l.length ∧ Hid (PosTo l j)) (fun k => l.length - (intOf k).toNat)
            case atStart => exact ⟨0, rfl, Nat.zero_le _, PosTo.start _⟩
            case round =>
              obtain ⟨j, rfl, hjl, hE⟩ := hrel
              by_cases h2 : j < l.length
              · obtain ⟨gu, offu, rfl⟩ := HUA.out (fun e => by rw [e] at h2; simp at h2)
                obtain ⟨x, hx⟩ : ∃ x, x = at' l j := ⟨_, rfl⟩
                have hxc : w2.cell? ⟨gu, offu + j, none⟩ = some (.int .i64 x) := by rw [hx]; exact HU2.out.at h2
                by_cases h0 : x < 0
                · have hd : decide (x < 0) = true := decide_eq_true h0
                  have HR := Lib.hid (show V = false by rw [HV.out]; exact may_not HSI.out (fits_id h2 hx h0))
                  clear h0 hx
                  go_wp2
                  go_ret
                  exact ⟨ret_bool HR.out.symm, NX2.out⟩
                · have hd : decide (x < 0) = false := decide_eq_false h0
                  have HE2 := Lib.hid (hE.out.round hx (by omega))
                  clear h0 hx hE
                  go_wp2
                  go_round
                  case rel => exact ⟨j + 1, by go_num, by omega, HE2.out⟩
                  case measure => simp only [intOf]; omega
              · have e : j = l.length := by omega
                have HM := Lib.hid (HE.out.round HSI.out (fits_yes hql HQ.out rfl (by have := hE.out; rw [e] at this; exact this)))
                clear e hE
                go_wp2
                go_roundw
                case rel => exact ⟨i + 1, by go_num, by omega, NX2, HM⟩
                case measure => simp only [intOf]; omega
          · have hd3 : ((l.length : Int) != b) = true := by simpa using hl
            have HR := Lib.hid (show V = false by rw [HV.out]; exact may_not HSI.out (fits_arity HQ.out hl))
            clear hl HV
            go_quiet (fail)
            generalize hW : W1.drewN _ = w2
            have NX := Lib.hid (show Below w.heap.size w w2 by rw [← hW]; exact below_drewN HB1.out)
            clear hW
            go_wp2
            go_ret
            exact ⟨ret_bool HR.out.symm, NX.out⟩
    · have e : i = rs.length := by omega
      have HR := Lib.hid (show V = true by rw [HV.out]; have := HE.out; rw [e] at this; exact this.full)
      clear e
      go_wp2
      go_ret
      exact ⟨ret_bool HR.out.symm, HBi.out⟩
end Go.Proofs.Ytmkoejpdoeblkaa
