/-
  What AlphaHolds makes out of its arguments: proper patterns, usual rows, distinct shapes that make a net. No condition beyond those that each lemma states.
-/
import Derived.Test.YtlandkindbmbfaaK13
namespace Go.Proofs.Ytlandkindbmbfaa
open Go.RowKit Plain

def prPt (x : Pt) : Pt := (prP x.1, x.2.map pf)

theorem dist_new (ps : List Pt) : newB (distB ps) = true := by
  have key : ∀ (l : List Pt) (acc : List Shp), newB acc = true → newB (l.foldl stepD acc) = true := by
    intro l
    induction l with
    | nil => intro acc h; exact h
    | cons x l ih =>
      intro acc h
      rw [List.foldl_cons]
      refine ih _ ?_
      by_cases h0 : (shp x).pred < 0
      · rw [stepD_neg h0]; exact h
      · cases hs : standsB acc (shp x) with
        | true => rw [stepD_old hs]; exact h
        | false =>
          rw [stepD_yes (by omega) hs]
          exact newB_snoc h (by unfold shp; rw [shape_valid_iff]; exact decide_eq_true (by unfold shp at h0; omega)) hs
  exact key ps [] newB_nil
theorem dist_some {ps : List Pt} (h : ∀ x, x ∈ ps → 0 ≤ (shp x).pred) (hn : 0 < ps.length) : 0 < (distB ps).length := by
  have key : ∀ (l : List Pt) (acc : List Shp), acc.length ≤ (l.foldl stepD acc).length := by
    intro l
    induction l with
    | nil => intro acc; exact Nat.le_refl _
    | cons x l ih =>
      intro acc
      rw [List.foldl_cons]
      refine Nat.le_trans ?_ (ih _)
      unfold stepD; split <;> simp
  match ps, hn with
  | x :: l, _ =>
    unfold distB
    rw [List.foldl_cons]
    refine Nat.lt_of_lt_of_le ?_ (key l _)
    rw [stepD_yes (h x (List.mem_cons_self)) rfl]
    simp
theorem prPt_ok {x : Pt} (h : OkPat x) : OkPat (prPt x) := ⟨⟨by have := prP_ok h.1; show _ ≤ prP x.1; omega, (prP_ok h.1).2⟩, pf_i64 h.2.1, by show (x.2.map pf).length ≤ _; rw [List.length_map]; exact h.2.2⟩
theorem prPt_pred {x : Pt} (h : OkPat x) : 0 ≤ (shp (prPt x)).pred := by
  have h1 := (prP_ok h.1).1
  unfold shp prPt
  rw [shapeB_ok h1 (pf_ok _)]
  exact h1
theorem prPt_oks {ps : List Pt} (h : OkPats ps) : OkPats (ps.map prPt) := by
  intro x hx
  obtain ⟨y, hy, rfl⟩ := List.mem_map.1 hx
  exact prPt_ok (h y hy)
theorem prPt_preds {ps : List Pt} (h : OkPats ps) : ∀ x, x ∈ ps.map prPt → 0 ≤ (shp x).pred := by
  intro x hx
  obtain ⟨y, hy, rfl⟩ := List.mem_map.1 hx
  exact prPt_pred (h y hy)
theorem dist_oks {ps : List Pt} (h : OkPats ps) : Okays (distB ps) := by
  have := dist_okays h ps.length
  rw [List.take_length] at this
  exact this

theorem us_pred (r : Shp) : 0 ≤ (us r).pred := by show 0 ≤ prP r.pred; unfold prP; split <;> omega
theorem us_neg (r : Shp) : negB (us r).cells = false := by
  unfold negB
  rw [List.any_eq_false]
  intro x hx
  obtain ⟨y, _, rfl⟩ := List.mem_map.1 hx
  unfold prP
  simp only [decide_eq_true_eq]
  split <;> omega
theorem us_len (r : Shp) : (us r).cells.length = r.cells.length := List.length_map _
theorem us_rows {rows : List Shp} (h : Okays rows) {k : Nat} {r : Shp} (hr : (rows.map us)[k]? = some r) : 0 ≤ r.pred ∧ negB r.cells = false ∧ r.cells.length ≤ 17592186044400 := by
  rw [List.getElem?_map] at hr
  cases e : rows[k]? with
  | none => rw [e] at hr; cases hr
  | some q =>
    rw [e] at hr
    obtain rfl := Option.some.inj hr
    exact ⟨us_pred q, us_neg q, by rw [us_len]; exact (h q (List.mem_of_getElem? e)).2⟩
theorem take_map_snoc {α β : Type} {l : List α} {f : α → β} {i : Nat} {a : α} (h : l[i]? = some a) : (l.take (i + 1)).map f = (l.take i).map f ++ [f a] := by
  rw [take_one h, List.map_append]; rfl

theorem OwnShps.cap {w : World} {B : Nat} {v : Value} {ss : List Shp} (h : OwnShps w B v ss) : ∀ a n c, v = .slice a n c → n ≤ c := by
  obtain ⟨vs, hl, ho, _⟩ := h
  intro a n c e
  subst e
  rcases ho.2 with ⟨h1, _⟩ | ⟨g, cap, cur, h1, _, _, h2, _⟩
  · simp only [Value.slice.injEq] at h1; omega
  · simp only [Value.slice.injEq] at h1; omega

end Go.Proofs.Ytlandkindbmbfaa
