/-
  Plain laws of patterns for the renamed ones: which shapes are distinct, which cover which. No program is in sight here; no condition beyond those that each lemma states.
-/
import Derived.Test.YtlandkindbmbfaaPlain7
namespace Go.Proofs.Ytlandkindbmbfaa.Plain

theorem sameB_self (s : Shp) : sameB s s = true := by unfold sameB; simp
theorem dist_three {s : Shp} {x y : Pt} (hx : shp x = s) (hy : shp y = s) (h0 : 0 ≤ s.pred) : distB [x, y, x] = [s] := by
  have h1 : stepD [] x = [s] := by rw [stepD_yes (by rw [hx]; exact h0) rfl, hx]; rfl
  have h2 : standsB [s] s = true := by unfold standsB; simp [sameB_self]
  show stepD (stepD (stepD [] x) y) x = [s]
  have e1 : stepD [s] y = [s] := stepD_old (by rw [hy]; exact h2)
  have e2 : stepD [s] x = [s] := stepD_old (by rw [hx]; exact h2)
  rw [h1, e1, e2]
theorem dist_four {c d : Shp} {x y z : Pt} (hx : shp x = c) (hy : shp y = d) (hz : (shp z).pred < 0) (h0 : 0 ≤ c.pred) (h1 : 0 ≤ d.pred) (hd : sameB d c = false) : distB [x, y, z, x] = [c, d] := by
  have e1 : stepD [] x = [c] := by rw [stepD_yes (by rw [hx]; exact h0) rfl, hx]; rfl
  have e2 : stepD [c] y = [c, d] := by
    rw [stepD_yes (by rw [hy]; exact h1) (by rw [hy]; unfold standsB; simp [hd]), hy]; rfl
  have e3 : standsB [c, d] c = true := by unfold standsB; simp [sameB_self]
  show stepD (stepD (stepD (stepD [] x) y) z) x = [c, d]
  have e4 : stepD [c, d] z = [c, d] := stepD_neg hz
  have e5 : stepD [c, d] x = [c, d] := stepD_old (by rw [hx]; exact e3)
  rw [e1, e2, e4, e5]

/-- The last part of AlphaRenamed, in one: q with a new variable behind, r (of the same shape) with the constant 7. -/
theorem renamed_end {p : Int} {ql rl : List Slt} {n : Int} (hp : 0 ≤ p) (hq : ql.all okSlt = true) (hr : rl.all okSlt = true) (hs : shapeB p rl = shapeB p ql) (hn : ¬ n ∈ vars ql) :
    sameB (shapeB p (ql ++ [(true, n)])) (shapeB p (rl ++ [(false, 7)])) = false ∧
    coversB (shapeB p (ql ++ [(true, n)])) (shapeB p (rl ++ [(false, 7)])) = true ∧ coversB (shapeB p (rl ++ [(false, 7)])) (shapeB p (ql ++ [(true, n)])) = false := by
  have hc : shapeB p (rl ++ [(false, 7)]) = shapeB p (ql ++ [(false, 7)]) := by
    rw [shape_push_const hp hr (by omega), shape_push_const hp hq (by omega), hs]
  have hqv : (ql ++ [(true, n)]).all okSlt = true := by rw [List.all_append, hq]; simp [okSlt]
  have hqc : (ql ++ [(false, 7)]).all okSlt = true := by rw [List.all_append, hq]; simp [okSlt]
  have hd : sameB (shapeB p (ql ++ [(true, n)])) (shapeB p (ql ++ [(false, 7)])) = false := by
    rw [shape_push_var hp hq hn, shape_push_const hp hq (by omega)]
    unfold sameB
    have : ¬ ((shapeB p ql).cells ++ [-1 - ((shapeB p ql).cells.length : Int)] = (shapeB p ql).cells ++ [7]) := by
      intro e
      have := List.append_cancel_left e
      simp at this
      omega
    simp only [decide_eq_false this, Bool.and_false]
  have hm : (ql ++ [(true, n)]).map (fun a => if isVar n a then (false, 7) else a) = ql ++ [(false, 7)] := by
    rw [List.map_append]
    congr 1
    · have : ql.map (fun a => if isVar n a then ((false, 7) : Slt) else a) = ql.map id := by
        refine List.map_congr_left (fun a ha => ?_)
        have hna : isVar n a = false := by
          rw [Bool.eq_false_iff]
          intro e
          obtain ⟨b, m⟩ := a
          simp [isVar] at e
          obtain ⟨rfl, rfl⟩ := e
          obtain ⟨i, hi, e2⟩ := List.getElem_of_mem ha
          exact hn (vars_mem.2 ⟨i, by rw [List.getElem?_eq_getElem hi, e2]⟩)
        rw [hna]; rfl
      rw [this, List.map_id]
    · simp [isVar]
  have hcov : coversB (shapeB p (ql ++ [(true, n)])) (shapeB p (ql ++ [(false, 7)])) = true := by
    rw [← hm]
    refine sub_covers hp hqv (fun c => by simp [isVar]) ?_
    rw [hm]; exact hqc
  rw [hc]
  exact ⟨hd, hcov, by rw [covers_back hcov]; exact hd⟩

end Go.Proofs.Ytlandkindbmbfaa.Plain
