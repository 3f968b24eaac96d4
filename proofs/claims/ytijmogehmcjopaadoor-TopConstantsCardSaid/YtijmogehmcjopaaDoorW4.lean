/-
  The walk of the law's order of constants. Conditions: none.
-/
import Derived.Test.YtijmogehmcjopaaDoorW3
namespace Go.Proofs.YtijmogehmcjopaaDoor
open Go.RowKit Ct

/-- Both boxes are laid. -/
structure TwoBoxes (a b : Cn) (w w2 : World) : Prop where
  bel : Below w.heap.size w w2
  c0 : w2.cell? ⟨w.heap.size, 0, none⟩ = some (.int .i64 a.kind)
  c1 : w2.cell? ⟨w.heap.size, 1, none⟩ = some (.int .i64 a.int)
  c2 : w2.cell? ⟨w.heap.size, 2, none⟩ = some (.string ⟨a.text.toArray⟩)
  d0 : w2.cell? ⟨w.heap.size + 1, 0, none⟩ = some (.int .i64 b.kind)
  d1 : w2.cell? ⟨w.heap.size + 1, 1, none⟩ = some (.int .i64 b.int)
  d2 : w2.cell? ⟨w.heap.size + 1, 2, none⟩ = some (.string ⟨b.text.toArray⟩)
theorem twoBoxes (a b : Cn) (w : World) : TwoBoxes a b w ((w.alloc (cnO a)).alloc (cnO b)) := by
  refine ⟨((Below.refl _ w).alloc (Nat.le_refl _) _).alloc (by simp) _, ?_, ?_, ?_, ?_, ?_, ?_⟩ <;> simp [cnO]

theorem eql_cn (a b : Cn) (w : World) : (binOp BinOp.eql 26 (cnV a) (cnV b)).run Tryd.prog w = .ok (.bool (decide (a = b))) w := by
  have h1 : decide (a = b) = (decide (a.kind = b.kind) && (decide (a.int = b.int) && decide (a.text = b.text))) := by
    rw [Bool.eq_iff_iff]
    simp only [Bool.and_eq_true, decide_eq_true_eq]
    constructor
    · intro h; subst h; exact ⟨rfl, rfl, rfl⟩
    · rintro ⟨h1, h2, h3⟩; cases a; cases b; simp only at h1 h2 h3; subst h1 h2 h3; rfl
  rw [h1]
  unfold cnV
  by_cases hk : a.kind = b.kind
  · by_cases hi : a.int = b.int
    · by_cases ht : a.text = b.text
      · simp [go_sem, hk, hi, ht]
      · simp [go_sem, hk, hi, ht]
    · simp [go_sem, hk, hi]
  · simp [go_sem, hk]

set_option maxRecDepth 100000 in
set_option maxHeartbeats 3200000 in
theorem before_any (a b : Cn) (w : World) : Calls Tryd.prog 15 #[cnV a, cnV b] w fun e w' => e = .returned (.int .i64 (befC a b)) ∧ Below w.heap.size w w' := by
  obtain ⟨w2, hw2⟩ : ∃ w2, w2 = (w.alloc (cnO a)).alloc (cnO b) := ⟨_, rfl⟩
  obtain ⟨hb, c0, c1, c2, d0, d1, d2⟩ : TwoBoxes a b w w2 := by rw [hw2]; exact twoBoxes a b w
  obtain ⟨V, hV⟩ : ∃ V, V = befC a b := ⟨_, rfl⟩
  rw [← hV]
  go_enter Tryd.func15, Tryd.ntmps15
  unfold cnV
  go_upto_region 1 with fail
  change Code.wp Tryd.prog _ _ _ ((w.alloc (cnO a)).alloc (cnO b))
  rw [← hw2]
  clear hw2
  have HB := Lib.hid hb
  clear hb
  have HV := Lib.hid hV
  clear hV
  by_cases e : a = b
  · subst e
    have hV : V = 0 := by rw [HV.out, befC, if_pos rfl]
    go_wp2
    all_goals go_ret
    all_goals exact ⟨by rw [hV]; rfl, HB.out⟩
  have hE : ∀ v, (binOp BinOp.eql 26 (.agg #[.int .i64 a.kind, .int .i64 a.int, .string ⟨a.text.toArray⟩]) (.agg #[.int .i64 b.kind, .int .i64 b.int, .string ⟨b.text.toArray⟩])).run Tryd.prog v = .ok (.bool false) v := fun v => by
    have h := eql_cn a b v
    rw [decide_eq_false e] at h
    exact h
  have hV0 : V = if a.kind ≠ b.kind then (if a.kind < b.kind then -1 else 1) else if a.kind = 1 then (if a.int < b.int then -1 else 1) else if a.text < b.text then -1 else 1 := by rw [HV.out, befC, if_neg e]
  clear HV
  have HE := Lib.hid e
  clear e
  by_cases hk : a.kind = b.kind
  · have k1 : (a.kind != b.kind) = false := by simp [hk]
    rw [if_neg (by simp [hk])] at hV0
    by_cases h1 : a.kind = 1
    · have k2 : (a.kind == 1) = true := by simp [h1]
      rw [if_pos h1] at hV0
      clear hk h1
      by_cases h2 : a.int < b.int
      · have hV : V = -1 := by rw [hV0, if_pos h2]
        clear hV0
        go_wp2
        all_goals go_ret
        all_goals exact ⟨by first | (rw [hV]; rfl) | rfl, HB.out⟩
      · have hV : V = 1 := by rw [hV0, if_neg h2]
        have h2' : decide (a.int < b.int) = false := decide_eq_false h2
        clear hV0
        go_wp2
        all_goals go_ret
        all_goals exact ⟨by first | (rw [hV]; rfl) | rfl, HB.out⟩
    · have k2 : (a.kind == 1) = false := by simp [h1]
      rw [if_neg h1] at hV0
      clear hk h1
      by_cases h2 : a.text < b.text
      · have hV : V = -1 := by rw [hV0, if_pos h2]
        have hl : Op.bytesLess a.text b.text = true := by rw [Go.Proofs.bytesLess_eq]; exact decide_eq_true h2
        clear hV0 h2
        go_wp2
        all_goals go_ret
        all_goals exact ⟨by first | (rw [hV]; rfl) | rfl, HB.out⟩
      · have hV : V = 1 := by rw [hV0, if_neg h2]
        have hl : Op.bytesLess a.text b.text = false := by rw [Go.Proofs.bytesLess_eq]; exact decide_eq_false h2
        clear hV0 h2
        go_wp2
        all_goals go_ret
        all_goals exact ⟨by first | (rw [hV]; rfl) | rfl, HB.out⟩
  · have k1 : (a.kind != b.kind) = true := by simp [hk]
    rw [if_pos hk] at hV0
    clear hk
    by_cases h2 : a.kind < b.kind
    · have hV : V = -1 := by rw [hV0, if_pos h2]
      clear hV0
      go_wp2
      all_goals go_ret
      all_goals exact ⟨by first | (rw [hV]; rfl) | rfl, HB.out⟩
    · have hV : V = 1 := by rw [hV0, if_neg h2]
      have h2' : decide (a.kind < b.kind) = false := decide_eq_false h2
      clear hV0
      go_wp2
      all_goals go_ret
      all_goals exact ⟨by first | (rw [hV]; rfl) | rfl, HB.out⟩
end Go.Proofs.YtijmogehmcjopaaDoor
