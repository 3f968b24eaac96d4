/-
  The walks of sym.Compare, with the world as it is behind it, and of Sorted's closure. Conditions: the table as it stands.
-/
import Derived.Test.YtijmogehmcjopaaDoorW22
import Derived.Shelf.SlSortCmp.NoneTotal
namespace Go.Proofs.YtijmogehmcjopaaDoor
open Go.RowKit Go.Shelf Ct

set_option maxRecDepth 100000 in
set_option maxHeartbeats 3200000 in
theorem compare_exact (a b : Cn) (w : World) : Calls Tryd.prog 14 #[cnV a, cnV b] w fun e w' => e = .returned (.int .i64 (cmpC a b)) ∧ w' = ((w.alloc (cnO a)).alloc (cnO b)).drew.alloc (Obj.cells #[.int .i64 (cmpI a.kind b.kind), .int .i64 (cmpI a.int b.int), .int .i64 (cmpS a.text b.text)] 3) := by
  obtain ⟨w2, hw2⟩ : ∃ w2, w2 = (w.alloc (cnO a)).alloc (cnO b) := ⟨_, rfl⟩
  have hb : Below w.heap.size w w2 := by rw [hw2]; exact ((Below.refl _ w).alloc (Nat.le_refl _) _).alloc (by simp) _
  have hsz : w2.heap.size = w.heap.size + 2 := by rw [hw2]; simp
  have c0 : w2.cell? ⟨w.heap.size, 0, none⟩ = some (.int .i64 a.kind) := by rw [hw2]; simp [cnO]
  have c1 : w2.cell? ⟨w.heap.size, 1, none⟩ = some (.int .i64 a.int) := by rw [hw2]; simp [cnO]
  have c2 : w2.cell? ⟨w.heap.size, 2, none⟩ = some (.string ⟨a.text.toArray⟩) := by rw [hw2]; simp [cnO]
  have d0 : w2.cell? ⟨w.heap.size + 1, 0, none⟩ = some (.int .i64 b.kind) := by rw [hw2]; simp [cnO]
  have d1 : w2.cell? ⟨w.heap.size + 1, 1, none⟩ = some (.int .i64 b.int) := by rw [hw2]; simp [cnO]
  have d2 : w2.cell? ⟨w.heap.size + 1, 2, none⟩ = some (.string ⟨b.text.toArray⟩) := by rw [hw2]; simp [cnO]
  go_enter Tryd.func14, Tryd.ntmps14
  unfold cnV
  go_upto_region 1 with fail
  change Code.wp Tryd.prog _ _ _ ((w.alloc (cnO a)).alloc (cnO b))
  rw [← hw2]
  have HW2 := Lib.hid hw2
  clear hw2
  refine wp_region_H (fun x => Below w2.heap.size w2 x) (by kernel_rfl) ?_
  have hS0 : Below w2.heap.size w2 w2.drew := (Below.refl _ _).drew
  refine wpAnyH_tk 0 (some 5) (.pointer (some ⟨w.heap.size, 0, none⟩)) rfl rfl (by kernel_rfl) (fun _ _ _ h => h) (by assumption) (Or.inl ⟨by kernel_rfl, fun z hx => ?_⟩) ?_
  · clear hx
    go_simp
    try rfl
  refine wpAnyH_tk 1 (some 6) (.int .i64 a.kind) rfl rfl (by kernel_rfl) (fun _ _ _ h => h) (by assumption) (Or.inl ⟨by kernel_rfl, fun z hx => ?_⟩) ?_
  · have q := (hx.cell (p := ⟨w.heap.size, 0, none⟩) (by show w.heap.size < _; omega)).trans c0
    clear hx
    go_simp
    try rfl
  refine wpAnyH_tk 2 (some 7) (.pointer (some ⟨w.heap.size + 1, 0, none⟩)) rfl rfl (by kernel_rfl) (fun _ _ _ h => h) (by assumption) (Or.inl ⟨by kernel_rfl, fun z hx => ?_⟩) ?_
  · clear hx
    go_simp
    try rfl
  refine wpAnyH_tk 3 (some 8) (.int .i64 b.kind) rfl rfl (by kernel_rfl) (fun _ _ _ h => h) (by assumption) (Or.inl ⟨by kernel_rfl, fun z hx => ?_⟩) ?_
  · have q := (hx.cell (p := ⟨w.heap.size + 1, 0, none⟩) (by show w.heap.size + 1 < _; omega)).trans d0
    clear hx
    go_simp
    try rfl
  refine wpAnyH_tk 5 (some 10) (.pointer (some ⟨w.heap.size, 1, none⟩)) rfl rfl (by kernel_rfl) (fun _ _ _ h => h) (by assumption) (Or.inl ⟨by kernel_rfl, fun z hx => ?_⟩) ?_
  · clear hx
    go_simp
    try rfl
  refine wpAnyH_tk 6 (some 11) (.int .i64 a.int) rfl rfl (by kernel_rfl) (fun _ _ _ h => h) (by assumption) (Or.inl ⟨by kernel_rfl, fun z hx => ?_⟩) ?_
  · have q := (hx.cell (p := ⟨w.heap.size, 1, none⟩) (by show w.heap.size < _; omega)).trans c1
    clear hx
    go_simp
    try rfl
  refine wpAnyH_tk 7 (some 12) (.pointer (some ⟨w.heap.size + 1, 1, none⟩)) rfl rfl (by kernel_rfl) (fun _ _ _ h => h) (by assumption) (Or.inl ⟨by kernel_rfl, fun z hx => ?_⟩) ?_
  · clear hx
    go_simp
    try rfl
  refine wpAnyH_tk 8 (some 13) (.int .i64 b.int) rfl rfl (by kernel_rfl) (fun _ _ _ h => h) (by assumption) (Or.inl ⟨by kernel_rfl, fun z hx => ?_⟩) ?_
  · have q := (hx.cell (p := ⟨w.heap.size + 1, 1, none⟩) (by show w.heap.size + 1 < _; omega)).trans d1
    clear hx
    go_simp
    try rfl
  refine wpAnyH_tk 10 (some 15) (.pointer (some ⟨w.heap.size, 2, none⟩)) rfl rfl (by kernel_rfl) (fun _ _ _ h => h) (by assumption) (Or.inl ⟨by kernel_rfl, fun z hx => ?_⟩) ?_
  · clear hx
    go_simp
    try rfl
  refine wpAnyH_tk 11 (some 16) (.string ⟨a.text.toArray⟩) rfl rfl (by kernel_rfl) (fun _ _ _ h => h) (by assumption) (Or.inl ⟨by kernel_rfl, fun z hx => ?_⟩) ?_
  · have q := (hx.cell (p := ⟨w.heap.size, 2, none⟩) (by show w.heap.size < _; omega)).trans c2
    clear hx
    go_simp
    try rfl
  refine wpAnyH_tk 12 (some 17) (.pointer (some ⟨w.heap.size + 1, 2, none⟩)) rfl rfl (by kernel_rfl) (fun _ _ _ h => h) (by assumption) (Or.inl ⟨by kernel_rfl, fun z hx => ?_⟩) ?_
  · clear hx
    go_simp
    try rfl
  refine wpAnyH_tk 13 (some 18) (.string ⟨b.text.toArray⟩) rfl rfl (by kernel_rfl) (fun _ _ _ h => h) (by assumption) (Or.inl ⟨by kernel_rfl, fun z hx => ?_⟩) ?_
  · have q := (hx.cell (p := ⟨w.heap.size + 1, 2, none⟩) (by show w.heap.size + 1 < _; omega)).trans d2
    clear hx
    go_simp
    try rfl
  refine wpAnyH_one 4 rfl (by kernel_rfl) (fun K' hK' => ?_)
  rw [if_pos (by kernel_rfl)]
  go_simp
  go_at_call 29
  refine (cmp29 _ _ _).mono ?_
  rintro e wc ⟨rfl, hwc⟩
  rw [hwc]
  clear hwc
  go_simp
  refine hK' _ _ (by assumption) ?_
  clear hK'
  refine wpAnyH_one 9 rfl (by kernel_rfl) (fun K' hK' => ?_)
  rw [if_pos (by kernel_rfl)]
  go_simp
  go_at_call 30
  refine (cmp30 _ _ _).mono ?_
  rintro e wc ⟨rfl, hwc⟩
  rw [hwc]
  clear hwc
  go_simp
  refine hK' _ _ (by assumption) ?_
  clear hK'
  refine wpAnyH_one 14 rfl (by kernel_rfl) (fun K' hK' => ?_)
  rw [if_pos (by kernel_rfl)]
  go_simp
  go_at_call 31
  refine (cmp31 _ _ _).mono ?_
  rintro e wc ⟨rfl, hwc⟩
  rw [hwc]
  clear hwc
  go_simp
  refine hK' _ _ (by assumption) ?_
  clear hK'

  obtain ⟨g, hg⟩ : ∃ g, g = w2.drew.heap.size := ⟨_, rfl⟩
  refine wpAnyH_one 15 rfl (by kernel_rfl) (fun K' hK' => ?_)
  rw [if_pos (by kernel_rfl)]
  go_simp
  rw [L_mk, L_mk]
  obtain ⟨w3, hw3⟩ : ∃ w3, w3 = (w2.alloc (Obj.cells #[.int .i64 (cmpI a.kind b.kind), .int .i64 (cmpI a.int b.int), .int .i64 (cmpS a.text b.text)] 3)).drew := ⟨_, rfl⟩
  rw [← hw3]
  have hS3 : Below w2.heap.size w2 w3 := by rw [hw3]; exact (up_alloc w2 _).drew
  have e0 : w3.cell? ⟨w.heap.size + 2, 0, none⟩ = some (.int .i64 (cmpI a.kind b.kind)) := by rw [hw3, ← hsz]; exact (cell_three _ _ _ _ _).1
  have e1 : w3.cell? ⟨w.heap.size + 2, 1, none⟩ = some (.int .i64 (cmpI a.int b.int)) := by rw [hw3, ← hsz]; exact (cell_three _ _ _ _ _).2.1
  have HW3 := Lib.hid hw3
  have e2 : w3.cell? ⟨w.heap.size + 2, 2, none⟩ = some (.int .i64 (cmpS a.text b.text)) := by rw [hw3, ← hsz]; exact (cell_three _ _ _ _ _).2.2
  clear hw3
  refine hK' _ _ hS3 ?_
  clear hK'
  refine wpAnyH_one 16 rfl (by kernel_rfl) (fun K' hK' => ?_)
  rw [if_pos (by kernel_rfl)]
  go_simp
  go_at_call 28
  refine (or28 _ _ _ _ _ e0 e1 e2).mono ?_
  rintro e wc ⟨rfl, hwc⟩
  rw [hwc]
  clear hwc
  go_simp
  refine hK' _ _ hS3 ?_
  clear hK'
  refine wpAnyH_one 17 rfl (by kernel_rfl) (fun K' hK' => ?_)
  rw [if_pos (by kernel_rfl)]
  go_simp
  refine hK' _ _ hS3 ?_
  clear hK'
  refine wpAnyH_done (by kernel_rfl) ?_ _
  go_simp
  go_wp2
  go_ret
  refine ⟨rfl, ?_⟩
  rw [HW3.out, HW2.out]
  rfl

theorem compare_grown (a b : Cn) (w : World) : Calls Tryd.prog 14 #[cnV a, cnV b] w fun e w' => e = .returned (.int .i64 (cmpC a b)) ∧ ∃ q os, w' = Sort.grow (w.drewN q) os := by
  refine (compare_exact a b w).mono ?_
  rintro e w' ⟨rfl, rfl⟩
  refine ⟨rfl, 1, #[cnO a, cnO b, Obj.cells #[.int .i64 (cmpI a.kind b.kind), .int .i64 (cmpI a.int b.int), .int .i64 (cmpS a.text b.text)] 3], ?_⟩
  simp [Sort.alloc_eq_grow, Sort.grow, World.drew, World.drewN, -World.alloc_eq, -World.drew_eq]
  apply Array.ext'
  simp

set_option maxRecDepth 100000 in
set_option maxHeartbeats 3200000 in
theorem cmp34 (w : World) (b0 X g cap n i j : Nat) (c d : Cn) (hi : i < n) (hj : j < n) (l0 : b0 < w.heap.size) (lX : X < w.heap.size) (lg : g < w.heap.size)
    (h0 : w.cell? ⟨b0, 0, none⟩ = some (.pointer (some ⟨X, 0, none⟩))) (hX : w.cell? ⟨X, 0, none⟩ = some (.slice (some ⟨g, 0, none⟩) n cap))
    (ci0 : w.cell? ⟨g, i * 3, none⟩ = some (.int .i64 c.kind)) (ci1 : w.cell? ⟨g, i * 3 + 1, none⟩ = some (.int .i64 c.int)) (ci2 : w.cell? ⟨g, i * 3 + 2, none⟩ = some (.string ⟨c.text.toArray⟩))
    (cj0 : w.cell? ⟨g, j * 3, none⟩ = some (.int .i64 d.kind)) (cj1 : w.cell? ⟨g, j * 3 + 1, none⟩ = some (.int .i64 d.int)) (cj2 : w.cell? ⟨g, j * 3 + 2, none⟩ = some (.string ⟨d.text.toArray⟩)) :
    Calls Tryd.prog 34 #[.int .i64 (i : Int), .int .i64 (j : Int), .pointer (some ⟨b0, 0, none⟩)] w fun e w' => e = .returned (.int .i64 (cmpC c d)) ∧ ∃ q os, w' = Sort.grow (w.drewN q) os := by
  have hiI : (i : Int) < (n : Int) := by omega
  have hjI : (j : Int) < (n : Int) := by omega
  have hi0 : (0 : Int) ≤ (i : Int) := by omega
  have hj0 : (0 : Int) ≤ (j : Int) := by omega
  clear hi hj
  go_enter Tryd.func34, Tryd.ntmps34
  go_upto_region 1 with fail
  refine wp_region_H (fun x => Below w.heap.size w x) (by kernel_rfl) ?_
  have hS0 : Below w.heap.size w w.drew := (Below.refl _ _).drew
  refine wpAnyH_tk 0 (some 6) (.pointer (some ⟨X, 0, none⟩)) rfl rfl (by kernel_rfl) (fun _ _ _ h => h) (by assumption) (Or.inl ⟨by kernel_rfl, fun z hx => ?_⟩) ?_
  · have q0 := (hx.cell (p := ⟨b0, 0, none⟩) l0).trans h0; clear hx; go_simp; first | done | rfl
  refine wpAnyH_tk 1 (some 7) (.pointer (some ⟨X, 0, none⟩)) rfl rfl (by kernel_rfl) (fun _ _ _ h => h) (by assumption) (Or.inl ⟨by kernel_rfl, fun z hx => ?_⟩) ?_
  · clear hx; go_simp; first | done | rfl
  refine wpAnyH_tk 2 (some 8) (.pointer (some ⟨X, 0, none⟩)) rfl rfl (by kernel_rfl) (fun _ _ _ h => h) (by assumption) (Or.inl ⟨by kernel_rfl, fun z hx => ?_⟩) ?_
  · clear hx; go_simp; first | done | rfl
  refine wpAnyH_tk 3 (some 9) (.pointer (some ⟨X, 0, none⟩)) rfl rfl (by kernel_rfl) (fun _ _ _ h => h) (by assumption) (Or.inl ⟨by kernel_rfl, fun z hx => ?_⟩) ?_
  · clear hx; go_simp; first | done | rfl
  refine wpAnyH_tk 4 (some 10) (.slice (some ⟨g, 0, none⟩) n cap) rfl rfl (by kernel_rfl) (fun _ _ _ h => h) (by assumption) (Or.inl ⟨by kernel_rfl, fun z hx => ?_⟩) ?_
  · have q0 := (hx.cell (p := ⟨X, 0, none⟩) lX).trans hX; clear hx; go_simp; first | done | rfl
  refine wpAnyH_tk 5 (some 11) (.int .i64 (i : Int)) rfl rfl (by kernel_rfl) (fun _ _ _ h => h) (by assumption) (Or.inl ⟨by kernel_rfl, fun z hx => ?_⟩) ?_
  · clear hx; go_simp; first | done | rfl
  refine wpAnyH_tk 6 (some 12) (.pointer (some ⟨g, i * 3, none⟩)) rfl rfl (by kernel_rfl) (fun _ _ _ h => h) (by assumption) (Or.inl ⟨by kernel_rfl, fun z hx => ?_⟩) ?_
  · clear hx; go_simp; first | done | rfl
  refine wpAnyH_tk 7 (some 13) (.agg #[.int .i64 c.kind, .int .i64 c.int, .string ⟨c.text.toArray⟩]) rfl rfl (by kernel_rfl) (fun _ _ _ h => h) (by assumption) (Or.inl ⟨by kernel_rfl, fun z hx => ?_⟩) ?_
  · have q0 := (hx.cell (p := ⟨g, i * 3, none⟩) lg).trans ci0; have q1 := (hx.cell (p := ⟨g, i * 3 + 1, none⟩) lg).trans ci1; have q2 := (hx.cell (p := ⟨g, i * 3 + 2, none⟩) lg).trans ci2; clear hx; go_simp; first | done | rfl
  refine wpAnyH_tk 8 (some 14) (.pointer (some ⟨X, 0, none⟩)) rfl rfl (by kernel_rfl) (fun _ _ _ h => h) (by assumption) (Or.inl ⟨by kernel_rfl, fun z hx => ?_⟩) ?_
  · have q0 := (hx.cell (p := ⟨b0, 0, none⟩) l0).trans h0; clear hx; go_simp; first | done | rfl
  refine wpAnyH_tk 9 (some 15) (.pointer (some ⟨X, 0, none⟩)) rfl rfl (by kernel_rfl) (fun _ _ _ h => h) (by assumption) (Or.inl ⟨by kernel_rfl, fun z hx => ?_⟩) ?_
  · clear hx; go_simp; first | done | rfl
  refine wpAnyH_tk 10 (some 16) (.pointer (some ⟨X, 0, none⟩)) rfl rfl (by kernel_rfl) (fun _ _ _ h => h) (by assumption) (Or.inl ⟨by kernel_rfl, fun z hx => ?_⟩) ?_
  · clear hx; go_simp; first | done | rfl
  refine wpAnyH_tk 11 (some 17) (.pointer (some ⟨X, 0, none⟩)) rfl rfl (by kernel_rfl) (fun _ _ _ h => h) (by assumption) (Or.inl ⟨by kernel_rfl, fun z hx => ?_⟩) ?_
  · clear hx; go_simp; first | done | rfl
  refine wpAnyH_tk 12 (some 18) (.slice (some ⟨g, 0, none⟩) n cap) rfl rfl (by kernel_rfl) (fun _ _ _ h => h) (by assumption) (Or.inl ⟨by kernel_rfl, fun z hx => ?_⟩) ?_
  · have q0 := (hx.cell (p := ⟨X, 0, none⟩) lX).trans hX; clear hx; go_simp; first | done | rfl
  refine wpAnyH_tk 13 (some 19) (.int .i64 (j : Int)) rfl rfl (by kernel_rfl) (fun _ _ _ h => h) (by assumption) (Or.inl ⟨by kernel_rfl, fun z hx => ?_⟩) ?_
  · clear hx; go_simp; first | done | rfl
  refine wpAnyH_tk 14 (some 20) (.pointer (some ⟨g, j * 3, none⟩)) rfl rfl (by kernel_rfl) (fun _ _ _ h => h) (by assumption) (Or.inl ⟨by kernel_rfl, fun z hx => ?_⟩) ?_
  · clear hx; go_simp; first | done | rfl
  refine wpAnyH_tk 15 (some 21) (.agg #[.int .i64 d.kind, .int .i64 d.int, .string ⟨d.text.toArray⟩]) rfl rfl (by kernel_rfl) (fun _ _ _ h => h) (by assumption) (Or.inl ⟨by kernel_rfl, fun z hx => ?_⟩) ?_
  · have q0 := (hx.cell (p := ⟨g, j * 3, none⟩) lg).trans cj0; have q1 := (hx.cell (p := ⟨g, j * 3 + 1, none⟩) lg).trans cj1; have q2 := (hx.cell (p := ⟨g, j * 3 + 2, none⟩) lg).trans cj2; clear hx; go_simp; first | done | rfl
  refine wpAnyH_one 16 rfl (by kernel_rfl) (fun K' hK' => ?_)
  rw [if_pos (by kernel_rfl)]
  go_simp
  go_at_call 14
  refine (compare_grown c d _).mono ?_
  rintro e w5 ⟨rfl, q, os, hw5⟩
  have hS5 : Below w.heap.size w w5 := by rw [hw5]; exact Lib.below_grow w.heap.size w.drew (Nat.le_refl _) q os |> (hS0.trans ·)
  have HW5 := Lib.hid hw5
  clear hw5
  go_simp
  refine hK' _ _ hS5 ?_
  clear hK'
  refine wpAnyH_tk 17 (some 5) (.int .i64 (cmpC c d)) rfl rfl (by kernel_rfl) (fun _ _ _ h => h) (by assumption) (Or.inl ⟨by kernel_rfl, fun z hx => ?_⟩) ?_
  · clear hx; go_simp; first | done | rfl
  refine wpAnyH_done (by kernel_rfl) ?_ _
  go_simp
  go_wp2
  all_goals go_ret
  refine ⟨rfl, 1 + q, os, ?_⟩
  rw [HW5.out]
  have e : w.drew.drewN q = w.drewN (1 + q) := by simp
  first | rw [e] | rfl
end Go.Proofs.YtijmogehmcjopaaDoor
