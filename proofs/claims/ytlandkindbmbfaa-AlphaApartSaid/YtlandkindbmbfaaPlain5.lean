/-
  Plain laws of patterns: special cases are covered, and cover only what is the same; what fits a covered shape fits the covering one. No program is in sight here; no condition beyond those that each lemma states.
-/
import Derived.Test.YtlandkindbmbfaaPlain4
namespace Go.Proofs.Ytlandkindbmbfaa.Plain

theorem coversB_parts {s t : Shp} (h : coversB s t = true) : validB s = true ∧ validB t = true ∧ s.pred = t.pred ∧ s.cells.length = t.cells.length ∧ ∀ i, i < s.cells.length → covAt s.cells t.cells i = true := by
  unfold coversB at h
  simp only [Bool.and_eq_true, decide_eq_true_eq] at h
  exact ⟨h.1, h.2.1, h.2.2.1, h.2.2.2.1, all_range.1 h.2.2.2.2⟩
theorem covers_refl {s : Shp} (h : validB s = true) : coversB s s = true := by
  refine coversB_true h h rfl rfl (fun i hi => ?_)
  by_cases h0 : at' s.cells i < 0
  · obtain ⟨j, hj, _, he⟩ := valid_cell h hi h0
    rw [covAt_neg rfl rfl h0 hj rfl, he]; simp
  · rw [covAt_pos rfl rfl (by omega)]; simp
theorem covers_anti {s t : Shp} (h1 : coversB s t = true) (h2 : coversB t s = true) : s = t := by
  obtain ⟨vs, vt, hp, hl, hst⟩ := coversB_parts h1
  obtain ⟨_, _, _, _, hts⟩ := coversB_parts h2
  have hc : s.cells = t.cells := by
    refine eq_of_at hl (fun i hi => ?_)
    have a := hst i hi
    have b := hts i (by omega)
    by_cases h0 : 0 ≤ at' s.cells i
    · rw [covAt_pos rfl rfl h0] at a; simp at a; exact a.symm
    · by_cases h3 : 0 ≤ at' t.cells i
      · rw [covAt_pos rfl rfl h3] at b; simp at b; exact b
      · obtain ⟨k, hk, hki, hke⟩ := valid_cell vs hi (by omega)
        obtain ⟨m, hm, hmi, hme⟩ := valid_cell vt (show i < t.cells.length by omega) (by omega)
        rw [covAt_neg rfl rfl (by omega) hk rfl] at a
        rw [covAt_neg rfl rfl (by omega) hm rfl] at b
        simp only [beq_iff_eq] at a b
        obtain ⟨m', hm', hmk, _⟩ := valid_cell vt (show k < t.cells.length by omega) (by omega)
        obtain ⟨k', hk', hkm, _⟩ := valid_cell vs (show m < s.cells.length by omega) (by omega)
        omega
  cases s; cases t; simp only at hp hc; rw [hp, hc]
theorem covers_back {s t : Shp} (h : coversB s t = true) : coversB t s = sameB s t := by
  rw [Bool.eq_iff_iff]
  constructor
  · intro h2
    rw [covers_anti h h2]; unfold sameB; simp
  · intro h2
    unfold sameB at h2
    simp only [Bool.and_eq_true, decide_eq_true_eq] at h2
    have : s = t := by cases s; cases t; simp only at h2; rw [h2.1, h2.2]
    rw [← this] at h ⊢; exact h
theorem fits_of_covers {s t : Shp} {q : Int} {row : List Int} (h : coversB s t = true) (hf : fitsB t q row = true) : fitsB s q row = true := by
  obtain ⟨vs, vt, hp, hl, hst⟩ := coversB_parts h
  unfold fitsB at hf
  simp only [Bool.and_eq_true, decide_eq_true_eq] at hf
  obtain ⟨_, hq, hrl, hr⟩ := hf
  have hr := all_range.1 hr
  have val : ∀ i, i < t.cells.length → at' row i = if at' t.cells i < 0 then at' row (-1 - at' t.cells i).toNat else at' t.cells i := fun i hi => by
    have := hr i (by omega); unfold fitAt at this; simpa using this
  refine fitsB_true vs (by rw [hq, hp]) (by omega) (fun i hi => ?_)
  have a := hst i (by omega)
  by_cases h0 : 0 ≤ at' s.cells i
  · rw [covAt_pos rfl rfl h0] at a
    simp only [beq_iff_eq] at a
    rw [fitAt_pos rfl rfl h0, val i (by omega), if_neg (by omega), a]; simp
  · obtain ⟨k, hk, hki, _⟩ := valid_cell vs (show i < s.cells.length by omega) (by omega)
    rw [covAt_neg rfl rfl (by omega) hk rfl] at a
    simp only [beq_iff_eq] at a
    rw [fitAt_neg rfl rfl (by omega) hk rfl, val i (by omega), val k (by omega), a]; simp

/-- A pattern's shape covers that of what a change of its variables makes of it. -/
theorem sub_covers {p : Int} {l : List Slt} {f : Slt → Slt} (hp : 0 ≤ p) (hl : l.all okSlt = true) (hf : ∀ c, f (false, c) = (false, c)) (hm : (l.map f).all okSlt = true) :
    coversB (shapeB p l) (shapeB p (l.map f)) = true := by
  have v1 := shape_valid hp hl
  have v2 := shape_valid hp hm
  rw [shapeB_ok hp hl] at v1 ⊢
  rw [shapeB_ok hp hm] at v2 ⊢
  refine coversB_true v1 v2 rfl (by simp) (fun i hi => ?_)
  simp only [List.length_map] at hi
  have hai : l[i]? = some l[i] := List.getElem?_eq_getElem hi
  generalize l[i] = a at hai
  obtain ⟨b, n⟩ := a
  have hc := at_map (f := cellOf l) hai
  have hmi : (l.map f)[i]? = some (f (b, n)) := by rw [List.getElem?_map, hai]; rfl
  have hd := at_map (f := cellOf (l.map f)) hmi
  cases b with
  | false =>
    have hn := List.all_eq_true.1 hl _ (List.mem_of_getElem? hai)
    simp [okSlt] at hn
    rw [hf] at hd
    rw [covAt_pos (x := n) (y := n) (by rw [hc]; rfl) (by rw [hd]; rfl) hn]; simp
  | true =>
    have hle := firstV_le hai
    have hfv := firstV_at (l := l) (n := n) (by omega)
    have hmk : (l.map f)[firstV l n]? = some (f (true, n)) := by rw [List.getElem?_map, hfv]; rfl
    have hdk := at_map (f := cellOf (l.map f)) hmk
    rw [covAt_neg (x := -1 - (firstV l n : Int)) (j := firstV l n) (by rw [hc]; rfl) rfl (by omega) (by omega) rfl, hd, hdk]; simp

end Go.Proofs.Ytlandkindbmbfaa.Plain
