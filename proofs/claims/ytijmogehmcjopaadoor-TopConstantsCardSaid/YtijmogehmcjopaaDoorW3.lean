/-
  The walks of cmp.Or at three numbers, and of sym.Compare. Conditions: none beyond those stated.
-/
import Derived.Test.YtijmogehmcjopaaDoorW2
import Derived.Test.YtijmogehmcjopaaDoorK0
namespace Go.Proofs.YtijmogehmcjopaaDoor
open Go.RowKit Ct

def orI (a b c : Int) : Int := if a ≠ 0 then a else if b ≠ 0 then b else c
set_option maxRecDepth 100000 in
set_option maxHeartbeats 3200000 in
theorem or28 (g : Nat) (a b c : Int) (w : World) (h0 : w.cell? ⟨g, 0, none⟩ = some (.int .i64 a)) (h1 : w.cell? ⟨g, 1, none⟩ = some (.int .i64 b)) (h2 : w.cell? ⟨g, 2, none⟩ = some (.int .i64 c)) :
    Calls Tryd.prog 28 #[.slice (some ⟨g, 0, none⟩) 3 3] w fun e w' => e = .returned (.int .i64 (orI a b c)) ∧ w' = w := by
  obtain ⟨V, hV⟩ : ∃ V, V = orI a b c := ⟨_, rfl⟩
  rw [← hV]
  have HV := Lib.hid hV
  clear hV
  go_enter Tryd.func28, Tryd.ntmps28
  go_wp2
  go_loop [8] (fun k => ∃ q : Nat, k = .int .i64 (q : Int) ∧ q ≤ 3 ∧ Hid ((1 ≤ q → a = 0) ∧ (2 ≤ q → b = 0) ∧ (3 ≤ q → c = 0))) (fun k => 3 - (intOf k).toNat)
  case atStart => exact ⟨0, rfl, by omega, Lib.hid ⟨by omega, by omega, by omega⟩⟩
  case round =>
    obtain ⟨q, rfl, hq, HQ⟩ := hrel
    obtain rfl | rfl | rfl | rfl : q = 0 ∨ q = 1 ∨ q = 2 ∨ q = 3 := by omega
    · by_cases hz : a = 0
      · have e1 : (a != 0) = false := by simp [hz]
        go_wp2
        go_round
        case rel => exact ⟨1, by go_num, by omega, Lib.hid ⟨fun _ => hz, by omega, by omega⟩⟩
        case measure => simp only [intOf]; omega
      · have e1 : (a != 0) = true := by simp [hz]
        have hV : V = a := by rw [HV.out, orI, if_pos hz]
        go_wp2
        all_goals go_ret
        all_goals exact ⟨by first | rfl | (rw [hV]; rfl), rfl⟩
    · have ha : a = 0 := HQ.out.1 (by omega)
      by_cases hz : b = 0
      · have e1 : (b != 0) = false := by simp [hz]
        clear ha
        go_wp2
        go_round
        case rel => exact ⟨2, by go_num, by omega, Lib.hid ⟨fun _ => HQ.out.1 (by omega), fun _ => hz, by omega⟩⟩
        case measure => simp only [intOf]; omega
      · have e1 : (b != 0) = true := by simp [hz]
        have hV : V = b := by rw [HV.out, orI, if_neg (by simp [ha]), if_pos hz]
        clear ha
        go_wp2
        all_goals go_ret
        all_goals exact ⟨by first | rfl | (rw [hV]; rfl), rfl⟩
    · have ha : a = 0 := HQ.out.1 (by omega)
      have hb : b = 0 := HQ.out.2.1 (by omega)
      by_cases hz : c = 0
      · have e1 : (c != 0) = false := by simp [hz]
        clear ha hb
        go_wp2
        go_round
        case rel => exact ⟨3, by go_num, by omega, Lib.hid ⟨fun _ => HQ.out.1 (by omega), fun _ => HQ.out.2.1 (by omega), fun _ => hz⟩⟩
        case measure => simp only [intOf]; omega
      · have e1 : (c != 0) = true := by simp [hz]
        have hV : V = c := by rw [HV.out, orI, if_neg (by simp [ha]), if_neg (by simp [hb])]
        clear ha hb
        go_wp2
        all_goals go_ret
        all_goals exact ⟨by first | rfl | (rw [hV]; rfl), rfl⟩
    · have hV : V = 0 := by rw [HV.out, orI, if_neg (by simp [HQ.out.1 (by omega)]), if_neg (by simp [HQ.out.2.1 (by omega)]), HQ.out.2.2 (by omega)]
      go_wp2
      all_goals go_ret
      all_goals exact ⟨by first | rfl | (rw [hV]; rfl), rfl⟩

theorem cell_three (w : World) (x y z : Value) (T : TypeId) : (w.alloc (.cells #[x, y, z] T)).cell? ⟨w.heap.size, 0, none⟩ = some x ∧ (w.alloc (.cells #[x, y, z] T)).cell? ⟨w.heap.size, 1, none⟩ = some y ∧ (w.alloc (.cells #[x, y, z] T)).cell? ⟨w.heap.size, 2, none⟩ = some z := by
  refine ⟨?_, ?_, ?_⟩ <;> rw [World.cell?_alloc_new] <;> rfl
/-- A constant's value as it is passed. -/
def cnV (c : Cn) : Value := .agg #[.int .i64 c.kind, .int .i64 c.int, .string ⟨c.text.toArray⟩]
theorem L_mk (l : List UInt8) : L ⟨l.toArray⟩ = l := by simp [L]
def cnO (c : Cn) : Obj := .cells #[.int .i64 c.kind, .int .i64 c.int, .string ⟨c.text.toArray⟩] 26

set_option maxRecDepth 100000 in
set_option maxHeartbeats 3200000 in
theorem compare_any (a b : Cn) (w : World) : Calls Tryd.prog 14 #[cnV a, cnV b] w fun e w' => e = .returned (.int .i64 (cmpC a b)) ∧ Below w.heap.size w w' := by
  obtain ⟨w2, hw2⟩ : ∃ w2, w2 = (w.alloc (cnO a)).alloc (cnO b) := ⟨_, rfl⟩
  have hb : Below w.heap.size w w2 := by rw [hw2]; exact ((Below.refl _ w).alloc (Nat.le_refl _) _).alloc (by simp) _
  have hsz : w2.heap.size = w.heap.size + 2 := by rw [hw2]; simp
  have c0 : w2.cell? ⟨w.heap.size, 0, none⟩ = some (.int .i64 a.kind) := by rw [hw2]; simp [cnO]
  have c1 : w2.cell? ⟨w.heap.size, 1, none⟩ = some (.int .i64 a.int) := by rw [hw2]; simp [cnO]
  have c2 : w2.cell? ⟨w.heap.size, 2, none⟩ = some (.string ⟨a.text.toArray⟩) := by rw [hw2]; simp [cnO]
  have d0 : w2.cell? ⟨w.heap.size + 1, 0, none⟩ = some (.int .i64 b.kind) := by rw [hw2]; simp [cnO]
  have d1 : w2.cell? ⟨w.heap.size + 1, 1, none⟩ = some (.int .i64 b.int) := by rw [hw2]; simp [cnO]
  have d2 : w2.cell? ⟨w.heap.size + 1, 2, none⟩ = some (.string ⟨b.text.toArray⟩) := by rw [hw2]; simp [cnO]
  go_enter Tryd.func14, Tryd.ntmps14
  unfold cnV
  go_upto_region 1 with fail
  change Code.wp Tryd.prog _ _ _ ((w.alloc (cnO a)).alloc (cnO b))
  rw [← hw2]
  have HW2 := Lib.hid hw2
  clear hw2
  refine wp_region_H (fun x => Below w2.heap.size w2 x) (by kernel_rfl) ?_
  have hS0 : Below w2.heap.size w2 w2.drew := (Below.refl _ _).drew
  refine wpAnyH_tk 0 (some 5) (.pointer (some ⟨w.heap.size, 0, none⟩)) rfl rfl (by kernel_rfl) (fun _ _ _ h => h) (by assumption) (Or.inl ⟨by kernel_rfl, fun z hx => ?_⟩) ?_
  · clear hx
    go_simp
    try rfl
  refine wpAnyH_tk 1 (some 6) (.int .i64 a.kind) rfl rfl (by kernel_rfl) (fun _ _ _ h => h) (by assumption) (Or.inl ⟨by kernel_rfl, fun z hx => ?_⟩) ?_
  · have q := (hx.cell (p := ⟨w.heap.size, 0, none⟩) (by show w.heap.size < _; omega)).trans c0
    clear hx
    go_simp
    try rfl
  refine wpAnyH_tk 2 (some 7) (.pointer (some ⟨w.heap.size + 1, 0, none⟩)) rfl rfl (by kernel_rfl) (fun _ _ _ h => h) (by assumption) (Or.inl ⟨by kernel_rfl, fun z hx => ?_⟩) ?_
  · clear hx
    go_simp
    try rfl
  refine wpAnyH_tk 3 (some 8) (.int .i64 b.kind) rfl rfl (by kernel_rfl) (fun _ _ _ h => h) (by assumption) (Or.inl ⟨by kernel_rfl, fun z hx => ?_⟩) ?_
  · have q := (hx.cell (p := ⟨w.heap.size + 1, 0, none⟩) (by show w.heap.size + 1 < _; omega)).trans d0
    clear hx
    go_simp
    try rfl
  refine wpAnyH_tk 5 (some 10) (.pointer (some ⟨w.heap.size, 1, none⟩)) rfl rfl (by kernel_rfl) (fun _ _ _ h => h) (by assumption) (Or.inl ⟨by kernel_rfl, fun z hx => ?_⟩) ?_
  · clear hx
    go_simp
    try rfl
  refine wpAnyH_tk 6 (some 11) (.int .i64 a.int) rfl rfl (by kernel_rfl) (fun _ _ _ h => h) (by assumption) (Or.inl ⟨by kernel_rfl, fun z hx => ?_⟩) ?_
  · have q := (hx.cell (p := ⟨w.heap.size, 1, none⟩) (by show w.heap.size < _; omega)).trans c1
    clear hx
    go_simp
    try rfl
  refine wpAnyH_tk 7 (some 12) (.pointer (some ⟨w.heap.size + 1, 1, none⟩)) rfl rfl (by kernel_rfl) (fun _ _ _ h => h) (by assumption) (Or.inl ⟨by kernel_rfl, fun z hx => ?_⟩) ?_
  · clear hx
    go_simp
    try rfl
  refine wpAnyH_tk 8 (some 13) (.int .i64 b.int) rfl rfl (by kernel_rfl) (fun _ _ _ h => h) (by assumption) (Or.inl ⟨by kernel_rfl, fun z hx => ?_⟩) ?_
  · have q := (hx.cell (p := ⟨w.heap.size + 1, 1, none⟩) (by show w.heap.size + 1 < _; omega)).trans d1
    clear hx
    go_simp
    try rfl
  refine wpAnyH_tk 10 (some 15) (.pointer (some ⟨w.heap.size, 2, none⟩)) rfl rfl (by kernel_rfl) (fun _ _ _ h => h) (by assumption) (Or.inl ⟨by kernel_rfl, fun z hx => ?_⟩) ?_
  · clear hx
    go_simp
    try rfl
  refine wpAnyH_tk 11 (some 16) (.string ⟨a.text.toArray⟩) rfl rfl (by kernel_rfl) (fun _ _ _ h => h) (by assumption) (Or.inl ⟨by kernel_rfl, fun z hx => ?_⟩) ?_
  · have q := (hx.cell (p := ⟨w.heap.size, 2, none⟩) (by show w.heap.size < _; omega)).trans c2
    clear hx
    go_simp
    try rfl
  refine wpAnyH_tk 12 (some 17) (.pointer (some ⟨w.heap.size + 1, 2, none⟩)) rfl rfl (by kernel_rfl) (fun _ _ _ h => h) (by assumption) (Or.inl ⟨by kernel_rfl, fun z hx => ?_⟩) ?_
  · clear hx
    go_simp
    try rfl
  refine wpAnyH_tk 13 (some 18) (.string ⟨b.text.toArray⟩) rfl rfl (by kernel_rfl) (fun _ _ _ h => h) (by assumption) (Or.inl ⟨by kernel_rfl, fun z hx => ?_⟩) ?_
  · have q := (hx.cell (p := ⟨w.heap.size + 1, 2, none⟩) (by show w.heap.size + 1 < _; omega)).trans d2
    clear hx
    go_simp
    try rfl
  refine wpAnyH_one 4 rfl (by kernel_rfl) (fun K' hK' => ?_)
  rw [if_pos (by kernel_rfl)]
  go_simp
  go_at_call 29
  refine (cmp29 _ _ _).mono ?_
  rintro e wc ⟨rfl, hwc⟩
  rw [hwc]
  clear hwc
  go_simp
  refine hK' _ _ (by assumption) ?_
  clear hK'
  refine wpAnyH_one 9 rfl (by kernel_rfl) (fun K' hK' => ?_)
  rw [if_pos (by kernel_rfl)]
  go_simp
  go_at_call 30
  refine (cmp30 _ _ _).mono ?_
  rintro e wc ⟨rfl, hwc⟩
  rw [hwc]
  clear hwc
  go_simp
  refine hK' _ _ (by assumption) ?_
  clear hK'
  refine wpAnyH_one 14 rfl (by kernel_rfl) (fun K' hK' => ?_)
  rw [if_pos (by kernel_rfl)]
  go_simp
  go_at_call 31
  refine (cmp31 _ _ _).mono ?_
  rintro e wc ⟨rfl, hwc⟩
  rw [hwc]
  clear hwc
  go_simp
  refine hK' _ _ (by assumption) ?_
  clear hK'

  obtain ⟨g, hg⟩ : ∃ g, g = w2.drew.heap.size := ⟨_, rfl⟩
  refine wpAnyH_one 15 rfl (by kernel_rfl) (fun K' hK' => ?_)
  rw [if_pos (by kernel_rfl)]
  go_simp
  rw [L_mk, L_mk]
  obtain ⟨w3, hw3⟩ : ∃ w3, w3 = (w2.alloc (Obj.cells #[.int .i64 (cmpI a.kind b.kind), .int .i64 (cmpI a.int b.int), .int .i64 (cmpS a.text b.text)] 3)).drew := ⟨_, rfl⟩
  rw [← hw3]
  have hS3 : Below w2.heap.size w2 w3 := by rw [hw3]; exact (up_alloc w2 _).drew
  have e0 : w3.cell? ⟨w.heap.size + 2, 0, none⟩ = some (.int .i64 (cmpI a.kind b.kind)) := by rw [hw3, ← hsz]; exact (cell_three _ _ _ _ _).1
  have e1 : w3.cell? ⟨w.heap.size + 2, 1, none⟩ = some (.int .i64 (cmpI a.int b.int)) := by rw [hw3, ← hsz]; exact (cell_three _ _ _ _ _).2.1
  have e2 : w3.cell? ⟨w.heap.size + 2, 2, none⟩ = some (.int .i64 (cmpS a.text b.text)) := by rw [hw3, ← hsz]; exact (cell_three _ _ _ _ _).2.2
  clear hw3
  refine hK' _ _ hS3 ?_
  clear hK'
  refine wpAnyH_one 16 rfl (by kernel_rfl) (fun K' hK' => ?_)
  rw [if_pos (by kernel_rfl)]
  go_simp
  go_at_call 28
  refine (or28 _ _ _ _ _ e0 e1 e2).mono ?_
  rintro e wc ⟨rfl, hwc⟩
  rw [hwc]
  clear hwc
  go_simp
  refine hK' _ _ hS3 ?_
  clear hK'
  refine wpAnyH_one 17 rfl (by kernel_rfl) (fun K' hK' => ?_)
  rw [if_pos (by kernel_rfl)]
  go_simp
  refine hK' _ _ hS3 ?_
  clear hK'
  refine wpAnyH_done (by kernel_rfl) ?_ _
  go_simp
  go_wp2
  go_ret
  refine ⟨?_, hb.trans (hS3.mono (by omega))⟩
  rfl
end Go.Proofs.YtijmogehmcjopaaDoor
