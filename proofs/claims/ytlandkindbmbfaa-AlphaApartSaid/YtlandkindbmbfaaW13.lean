/-
  The walk of edictlaw10.same, and what the parts of the special laws are told of patterns made by proper, merged and put. Conditions: the numbers are ints, the lists within the form's own reach.
-/
import Derived.Test.YtlandkindbmbfaaW12
import Derived.Test.YtlandkindbmbfaaPlain5
namespace Go.Proofs.Ytlandkindbmbfaa
open Go.RowKit Plain

set_option maxRecDepth 100000 in
set_option maxHeartbeats 1600000 in
theorem same_any (s t : Shp) (x y : Value) (w : World) (hx : ShpAt w w.heap.size x s) (hy : ShpAt w w.heap.size y t) (hs : Okay s) (ht : Okay t) :
    Calls Try.prog 32 #[x, y] w (BoolIs w (sameB s t)) := by
  obtain ⟨u, rfl, hu⟩ := hx
  obtain ⟨v, rfl, hv⟩ := hy
  obtain ⟨a, ca, rfl, _⟩ := id hu
  obtain ⟨b, cb, rfl, _⟩ := id hv
  have hls := hs.len
  have hlt := ht.len
  obtain ⟨W0, hW0⟩ : ∃ W0, W0 = (w.alloc (.cells #[.int .i64 s.pred, .slice a s.cells.length ca] 27)).alloc (.cells #[.int .i64 t.pred, .slice b t.cells.length cb] 27) := ⟨_, rfl⟩
  have hz0 : W0.heap.size = w.heap.size + 2 := by rw [hW0]; simp
  have HB0 := Lib.hid (show Below w.heap.size w W0 by rw [hW0]; exact ((Below.refl _ _).alloc (Nat.le_refl _) _).alloc (by simp) _)
  have HI := Lib.hid (ints_any s.cells t.cells _ _ W0 ((hu.below HB0.out).mono (by omega)) ((hv.below HB0.out).mono (by omega)) hls hlt)
  clear hu hv
  by_cases hp : s.pred = t.pred
  · have hpn : (s.pred == t.pred) = true := by simp [hp]
    have HR := Lib.hid (show decide (s.cells = t.cells) = sameB s t by unfold sameB; rw [decide_eq_true hp]; rfl)
    clear hp
    go_enter Try.func32, Try.ntmps32
    go_wp2_with fail
    rw [← hW0]
    clear hW0
    refine HI.out.mono ?_
    rintro e w1 ⟨rfl, hb1⟩
    rw [HR.out]
    go_wp2
    go_ret
    exact ⟨rfl, HB0.out.trans (hb1.mono (by omega))⟩
  · have hpn : (s.pred == t.pred) = false := by simpa using hp
    have HR := Lib.hid (sameB_pred hp)
    clear hp HI
    go_enter Try.func32, Try.ntmps32
    go_wp2
    go_ret
    refine ⟨ret_bool HR.out.symm, ?_⟩
    rw [← hW0]; exact HB0.out

def prP (p : Int) : Int := if p < 0 then 0 else p
theorem proper_any (p : Int) (l : List Slt) (v : Value) (w : World) (hv : SlotsAt w w.heap.size v l) (hn : l.length ≤ 8796093021952) :
    Calls Try.prog 22 #[.agg #[.int .i64 p, v]] w (PatIs (prP p) (l.map pf) w) := by
  by_cases hp : p < 0
  · have := proper_neg p l hp v w hv hn
    unfold prP; rw [if_pos hp]; exact this
  · have := proper_pos p l (by omega) v w hv hn
    unfold prP; rw [if_neg hp]; exact this
theorem prP_ok {p : Int} (h : -9223372036854775808 ≤ p ∧ p ≤ 9223372036854775807) : 0 ≤ prP p ∧ prP p ≤ 9223372036854775807 := by unfold prP; split <;> omega
theorem pf_ok (l : List Slt) : (l.map pf).all okSlt = true := by
  rw [List.all_eq_true]
  intro a ha
  obtain ⟨b, hb, rfl⟩ := List.mem_map.1 ha
  obtain ⟨c, n⟩ := b
  cases c <;> simp [pf, okSlt]
  split <;> omega
theorem mf_ok {l : List Slt} (x y : Int) (h : l.all okSlt = true) : (l.map (mf x y)).all okSlt = true := by
  rw [List.all_eq_true] at h ⊢
  intro a ha
  obtain ⟨b, hb, rfl⟩ := List.mem_map.1 ha
  unfold mf; split
  · rfl
  · exact h b hb
theorem uf_ok {l : List Slt} (x c : Int) (h : l.all okSlt = true) : (l.map (uf x c)).all okSlt = true := by
  rw [List.all_eq_true] at h ⊢
  intro a ha
  obtain ⟨b, hb, rfl⟩ := List.mem_map.1 ha
  unfold uf; split
  · simp [okSlt]; split <;> omega
  · exact h b hb
theorem pf_i64 {l : List Slt} (h : I64l l) : I64l (l.map pf) := by
  intro a ha
  obtain ⟨b, hb, rfl⟩ := List.mem_map.1 ha
  have := h b hb
  obtain ⟨c, n⟩ := b
  cases c
  · simp only [pf] at this ⊢; simp; split <;> omega
  · exact this
theorem mf_i64 {l : List Slt} (x y : Int) (hy : -9223372036854775808 ≤ y ∧ y ≤ 9223372036854775807) (h : I64l l) : I64l (l.map (mf x y)) := by
  intro a ha
  obtain ⟨b, hb, rfl⟩ := List.mem_map.1 ha
  unfold mf; split
  · exact hy
  · exact h b hb
theorem uf_i64 {l : List Slt} (x c : Int) (hc : -9223372036854775808 ≤ c ∧ c ≤ 9223372036854775807) (h : I64l l) : I64l (l.map (uf x c)) := by
  intro a ha
  obtain ⟨b, hb, rfl⟩ := List.mem_map.1 ha
  unfold uf; split
  · simp only; split <;> omega
  · exact h b hb
theorem shape_okay_big {p : Int} {l : List Slt} (hp : 0 ≤ p ∧ p ≤ 9223372036854775807) (hl : l.all okSlt = true) (hi : I64l l) (hn : l.length ≤ 8796093022000) : Okay (shapeB p l) ∧ (shapeB p l).cells.length ≤ 17592186044400 := by
  rw [shapeB_ok hp.1 hl]
  refine ⟨⟨by simp only; omega, by simp only; omega, fun j => ?_, by simp only [List.length_map]; omega⟩, by simp only [List.length_map]; omega⟩
  by_cases hj : j < l.length
  · have hai : l[j]? = some l[j] := List.getElem?_eq_getElem hj
    generalize l[j] = a at hai
    obtain ⟨b, n⟩ := a
    rw [at_map (f := cellOf l) hai]
    cases b with
    | false => exact hi _ (List.mem_of_getElem? hai)
    | true => have := firstV_le hai; simp only [cellOf, if_true]; omega
  · unfold at'; rw [List.getElem?_eq_none (by simp; omega)]; simp
theorem shape_okay {p : Int} {l : List Slt} (hp : 0 ≤ p ∧ p ≤ 9223372036854775807) (hl : l.all okSlt = true) (hi : I64l l) (hn : l.length ≤ 8796093021952) : Okay (shapeB p l) ∧ (shapeB p l).cells.length ≤ 17592186044400 :=
  shape_okay_big hp hl hi (Nat.le_trans hn (by decide))
theorem mf_const (x y c : Int) : mf x y (false, c) = (false, c) := by simp [mf, Plain.isVar]
theorem uf_const (x y c : Int) : uf x y (false, c) = (false, c) := by simp [uf, Plain.isVar]

end Go.Proofs.Ytlandkindbmbfaa
