/-
  The walk of a store's fits: may a row be? Conditions: the lists within the form's own reach.
-/
import Derived.Test.YtmkoejpdoeblkaaW4
namespace Go.Proofs.Ytmkoejpdoeblkaa
open Go.RowKit Pl

theorem fits_neg {A : List Int} {p : Int} {l : List Int} (h : p < 0) : fitsB A (p, l) = false := by
  refine Bool.eq_false_iff.2 (fun e => ?_)
  have := (fits_iff.1 e).1.1
  simp only at this; omega
theorem fits_big {A : List Int} {p : Int} {l : List Int} (h : (A.length : Int) ≤ p) : fitsB A (p, l) = false := by
  refine Bool.eq_false_iff.2 (fun e => ?_)
  have := (fits_iff.1 e).1.2.1
  simp only at this; omega
theorem fits_arity {A : List Int} {q : Nat} {l : List Int} {a : Int} (ha : a = at' A q) (h : (l.length : Int) ≠ a) : fitsB A ((q : Int), l) = false := by
  refine Bool.eq_false_iff.2 (fun e => ?_)
  have := (fits_iff.1 e).1.2.2
  simp only [Int.toNat_natCast] at this; rw [ha] at h; exact h this
theorem fits_id {A : List Int} {p : Int} {l : List Int} {i : Nat} {x : Int} (hi : i < l.length) (hx : x = at' l i) (h : x < 0) : fitsB A (p, l) = false := by
  refine Bool.eq_false_iff.2 (fun e => ?_)
  have := (fits_iff.1 e).2 i hi
  simp only at this; omega
theorem fits_yes {A : List Int} {q : Nat} {l : List Int} {a : Int} (hq : q < A.length) (ha : a = at' A q) (h : (l.length : Int) = a) (hp : PosTo l l.length) : fitsB A ((q : Int), l) = true :=
  fits_iff.2 ⟨⟨by simp, by simp; omega, by simp only [Int.toNat_natCast]; rw [h, ha]⟩, hp⟩

set_option maxRecDepth 100000 in
set_option maxHeartbeats 1600000 in
theorem fits_any (A : List Int) (r : Rw) (X : Nat) (av y : Value) (w : World) (hX : X < w.heap.size) (hc : w.cell? ⟨X, 0, none⟩ = some av) (ha : IntsIn w All av A) (hA : A.length ≤ 128) (hy : RowIn w All y r) (hr : r.2.length ≤ 1048576) :
    Calls Try.prog 18 #[.pointer (some ⟨X, 0, none⟩), y] w (BoolIs w (fitsB A r)) := by
  obtain ⟨V, hV⟩ : ∃ V, V = fitsB A r := ⟨_, rfl⟩
  rw [← hV]
  have HV := Lib.hid hV
  clear hV
  obtain ⟨u, rfl, hu⟩ := hy
  obtain ⟨p, l⟩ := r
  simp only at hu hr HV
  obtain ⟨ua, uc, rfl, hua⟩ := hu.form
  obtain ⟨aa, ac, rfl, haa⟩ := ha.form
  obtain ⟨W1, hW1⟩ : ∃ W1, W1 = w.alloc (.cells #[.int .i64 p, .slice ua l.length uc] 34) := ⟨_, rfl⟩
  have hb1 : Below w.heap.size w W1 := by rw [hW1]; exact up_alloc _ _
  have hz1 : W1.heap.size = w.heap.size + 1 := by rw [hW1]; simp
  have q1 : W1.heap[w.heap.size]? = some (.cells #[.int .i64 p, .slice ua l.length uc] 34) := by rw [hW1]; exact heap_alloc_new _ _
  obtain ⟨x0, x1, _, _⟩ := row2 q1
  have x2 : W1.cell? ⟨X, 0, none⟩ = some (.slice aa A.length ac) := (hb1.cell (p := ⟨X, 0, none⟩) hX).trans hc
  have HB1 := Lib.hid hb1
  have HU := Lib.hid (hu.below hb1)
  have HAr := Lib.hid (ha.below hb1)
  have HUA := Lib.hid hua
  have HAA := Lib.hid haa
  have HW1 := Lib.hid hW1
  clear hu ha hua haa hb1 hW1 hc
  by_cases hp : p < 0
  · have hd1 : decide (p < 0) = true := decide_eq_true hp
    have HR := Lib.hid (show V = false by rw [HV.out]; exact fits_neg hp)
    clear hp HV
    go_enter Try.func18, Try.ntmps18
    go_upto_region 1 with fail
    rw [← HW1.out]
    go_quiet (fail)
    generalize hW : W1.drewN _ = w2
    have NX := Lib.hid (show Below w.heap.size w w2 by rw [← hW]; exact below_drewN HB1.out)
    clear hW
    go_wp2
    go_ret
    exact ⟨ret_bool HR.out.symm, NX.out⟩
  have hd1 : decide (p < 0) = false := decide_eq_false hp
  by_cases hq : (A.length : Int) ≤ p
  · have hd2 : decide (p ≥ (A.length : Int)) = true := decide_eq_true hq
    have HR := Lib.hid (show V = false by rw [HV.out]; exact fits_big hq)
    clear hp hq HV
    go_enter Try.func18, Try.ntmps18
    go_upto_region 1 with fail
    rw [← HW1.out]
    go_quiet (fail)
    generalize hW : W1.drewN _ = w2
    have NX := Lib.hid (show Below w.heap.size w w2 by rw [← hW]; exact below_drewN HB1.out)
    clear hW
    go_wp2
    go_ret
    exact ⟨ret_bool HR.out.symm, NX.out⟩
  have hd2 : decide (p ≥ (A.length : Int)) = false := decide_eq_false hq
  obtain ⟨q, rfl⟩ : ∃ q : Nat, p = (q : Int) := ⟨p.toNat, by omega⟩
  have hql : q < A.length := by omega
  obtain ⟨ga, oa, rfl⟩ := HAA.out (fun e => by rw [e] at hql; simp at hql)
  obtain ⟨a, haq⟩ : ∃ a, a = at' A q := ⟨_, rfl⟩
  have x3 : W1.cell? ⟨ga, oa + q, none⟩ = some (.int .i64 a) := by rw [haq]; exact HAr.out.at hql
  have HQ := Lib.hid haq
  clear haq hp hq
  by_cases hl : (l.length : Int) = a
  · subst hl
    have hd3 : ((l.length : Int) != (l.length : Int)) = false := by simp
    go_enter Try.func18, Try.ntmps18
    go_upto_region 1 with fail
    rw [← HW1.out]
    go_quiet (fail)
    generalize hW : W1.drewN _ = w2
    have hb2 : Below W1.heap.size W1 w2 := by rw [← hW]; exact below_drewN (Below.refl _ _)
    have x1' : w2.cell? ⟨w.heap.size, 1, none⟩ = some (.slice ua l.length uc) := by rw [← hW]; exact x1
    have HB2 := Lib.hid hb2
    have HU2 := Lib.hid (HU.out.below hb2)
    have NX2 := Lib.hid (HB1.out.trans (hb2.mono (by omega)))
    clear hW hb2 x0 x1 x2 x3 hd3 hd1 hd2 HW1
    go_wp2
    go_loop [37] (fun k => ∃ i : Nat, k = .int .i64 (i : Int) ∧ i ≤ l.length ∧ Hid (PosTo l i)) (fun k => l.length - (intOf k).toNat)
    case atStart => exact ⟨0, rfl, Nat.zero_le _, PosTo.start _⟩
    case round =>
      obtain ⟨i, rfl, hil, hE⟩ := hrel
      by_cases h1 : i < l.length
      · obtain ⟨g, off, rfl⟩ := HUA.out (fun e => by rw [e] at h1; simp at h1)
        obtain ⟨x, hx⟩ : ∃ x, x = at' l i := ⟨_, rfl⟩
        have hxc : w2.cell? ⟨g, off + i, none⟩ = some (.int .i64 x) := by rw [hx]; exact HU2.out.at h1
        by_cases h0 : x < 0
        · have hd : decide (x < 0) = true := decide_eq_true h0
          have HR := Lib.hid (show V = false by rw [HV.out]; exact fits_id h1 hx h0)
          clear h0 hx
          go_wp2
          go_ret
          exact ⟨ret_bool HR.out.symm, NX2.out⟩
        · have hd : decide (x < 0) = false := decide_eq_false h0
          have HE := Lib.hid (hE.out.round hx (by omega))
          clear h0 hx hE
          go_wp2
          go_round
          case rel => exact ⟨i + 1, by go_num, by omega, HE.out⟩
          case measure => simp only [intOf]; omega
      · have e : i = l.length := by omega
        have HR := Lib.hid (show V = true by rw [HV.out]; exact fits_yes hql HQ.out rfl (by have := hE.out; rw [e] at this; exact this))
        clear e
        go_wp2
        go_ret
        exact ⟨ret_bool HR.out.symm, NX2.out⟩
  · have hd3 : ((l.length : Int) != a) = true := by simpa using hl
    have HR := Lib.hid (show V = false by rw [HV.out]; exact fits_arity HQ.out hl)
    clear hl HV
    go_enter Try.func18, Try.ntmps18
    go_upto_region 1 with fail
    rw [← HW1.out]
    go_quiet (fail)
    generalize hW : W1.drewN _ = w2
    have NX := Lib.hid (show Below w.heap.size w w2 by rw [← hW]; exact below_drewN HB1.out)
    clear hW
    go_wp2
    go_ret
    exact ⟨ret_bool HR.out.symm, NX.out⟩
end Go.Proofs.Ytmkoejpdoeblkaa
