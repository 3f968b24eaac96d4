/-
  The walks of sym.New and of the table's Intern. Conditions: the table as it stands; a constant in memory; at most 65536 constants.
-/
import Derived.Test.YtijmogehmcjopaaDoorW20
namespace Go.Proofs.YtijmogehmcjopaaDoor
open Go.RowKit Go.Maps Ct

set_option maxRecDepth 100000 in
set_option maxHeartbeats 3200000 in
theorem newIds_any (w : World) : Calls Tryd.prog 19 #[.slice none 0 0] w fun e w' => e = .returned (.pointer (some ⟨w.heap.size + 1, 0, none⟩)) ∧ w' = (w.alloc (.map #[] 0)).alloc (.cells #[.slice none 0 0, .map (some w.heap.size)] 35) := by
  have hmm : ∀ (t : TypeId) (w : World), (Instr.makeMap t none).run Tryd.prog w = .ok (.map (some w.heap.size)) (w.alloc (.map #[] 0)) := fun _ _ => rfl
  go_enter Tryd.func19, Tryd.ntmps19
  go_wp2
  go_loop [11] (fun k => k = .int .i64 0) (fun _ => 0)
  case atStart => rfl
  case round =>
    subst hrel
    go_wp2
    all_goals go_ret
    exact ⟨rfl, rfl⟩
set_option maxRecDepth 100000 in
set_option maxHeartbeats 3200000 in
theorem new_any (w : World) : Calls Tryd.prog 4 #[] w fun e w' => ∃ X M, e = .returned (.pointer (some ⟨X, 0, none⟩)) ∧ Tbl w.heap.size X M (.slice none 0 0) [] w' ∧ Below w.heap.size w w' := by
  have hc := newIds_any w
  obtain ⟨w2, hw2⟩ : ∃ w2, w2 = (w.alloc (.map #[] 0)).alloc (.cells #[.slice none 0 0, .map (some w.heap.size)] 35) := ⟨_, rfl⟩
  rw [← hw2] at hc
  have hb2 : Below w.heap.size w w2 := by rw [hw2]; exact (up_alloc _ _).alloc (by simp) _
  have hY : w2.heap[w.heap.size + 1]? = some (.cells #[.slice none 0 0, .map (some w.heap.size)] 35) := by
    have := heap_alloc_new (w.alloc (.map #[] 0)) (.cells #[.slice none 0 0, .map (some w.heap.size)] 35)
    rw [← hw2] at this
    simpa using this
  have hM : MapAt 26 w2 w.heap.size 0 (idV []) := by
    rw [hw2]
    refine ((MapAt.made w 26).same (by rw [Lib.alloc_old _ _ _ (by simp)])).keeps (fun x _ => ?_)
    unfold idV
    cases unC x <;> rfl
  have hs2 : w2.heap.size = w.heap.size + 2 := by rw [hw2]; simp
  obtain ⟨Y, hYY⟩ : ∃ Y, Y = w.heap.size + 1 := ⟨_, rfl⟩
  rw [← hYY] at hc hY
  obtain ⟨y0, y1, _, _⟩ := two_cells hY
  obtain ⟨w3, hw3⟩ : ∃ w3, w3 = w2.alloc (.cells #[.slice none 0 0, .map (some w.heap.size)] 37) := ⟨_, rfl⟩
  have HT : Hid (Tbl w.heap.size w2.heap.size w.heap.size (.slice none 0 0) [] w3) := Lib.hid (by
    rw [hw3]
    exact ⟨heap_alloc_new _ _, World.ownsRow_nil _ _ _ _, hM.same (Lib.alloc_old _ _ _ (by omega)), by simp [Value.ownBlock], by simp [Value.ownBlock], by omega, by omega, Nat.le_refl _⟩)
  have HB3 : Hid (Below w.heap.size w w3) := Lib.hid (by rw [hw3]; exact hb2.alloc hb2.size _)
  have HW3 := Lib.hid hw3
  clear hw2 hw3 hM hs2 hYY hb2 hY
  go_enter Tryd.func4, Tryd.ntmps4
  go_wp2_with (go_at_call 19; refine hc.mono ?_; rintro e w9 ⟨rfl, hw9⟩; rw [hw9]; clear hw9)
  all_goals go_ret
  refine ⟨w2.heap.size, w.heap.size, rfl, ?_, ?_⟩
  · have := HT.out; rw [HW3.out] at this; exact this
  · have := HB3.out; rw [HW3.out] at this; exact this

set_option maxRecDepth 100000 in
set_option maxHeartbeats 6400000 in
theorem tintern_bad {D X M : Nat} {v : Value} {ids : List Cn} {w : World} (h : Tbl D X M v ids w) (c : Cn) (hv : valid c = false) :
    Calls Tryd.prog 7 #[.pointer (some ⟨X, 0, none⟩), cnV c] w fun e w' => e = .returned (.tuple #[.int .i64 0, .int .i64 5]) ∧ Below w.heap.size w w' := by
  obtain ⟨w2, hw2⟩ : ∃ w2, w2 = w.alloc (cnO c) := ⟨_, rfl⟩
  obtain ⟨c0, c1, c2, _, _, _⟩ := three_cells (w := w2) (b := w.heap.size) (x := .int .i64 c.kind) (y := .int .i64 c.int) (z := .string ⟨c.text.toArray⟩) (t := 26) (by rw [hw2]; exact heap_alloc_new w _)
  have hb2 : Below w.heap.size w w2 := by rw [hw2]; exact up_alloc _ _
  have hlt : w.heap.size < w2.heap.size := by rw [hw2]; simp
  have hT := h.up hb2
  obtain ⟨k, hk⟩ : ∃ k, k = w.heap.size := ⟨_, rfl⟩
  have HK := Lib.hid hk
  have HB2 := Lib.hid hb2
  have HKM : Hid (k ≠ M) := Lib.hid (by have := h.map.lt; omega)
  have HKX : Hid (k ≠ X) := Lib.hid (by have := heap_lt h.blk; omega)
  have HKV : Hid (∀ i, v.ownBlock = some i → i < w.heap.size) := Lib.hid fun i e => (h.own.lt i e).2
  have hval := valid_any c w2
  rw [hv] at hval
  unfold cnV at hval
  rw [← hk] at hlt c0 c1 c2
  go_enter Tryd.func7, Tryd.ntmps7
  unfold cnV
  go_upto_region 1 with fail
  change Code.wp Tryd.prog _ _ _ (w.alloc (cnO c))
  rw [← hw2, ← hk]
  clear hw2 hk h hb2
  clear hv hT
  go_wp2_with (go_at_call 8; refine hval.mono ?_; rintro e w3 ⟨rfl, hb3⟩)
  all_goals go_ret2
  exact ⟨rfl, HB2.out.trans (hb3.mono HB2.out.size)⟩

set_option maxRecDepth 100000 in
set_option maxHeartbeats 6400000 in
theorem tintern_full {D X M : Nat} {v : Value} {ids : List Cn} {w : World} (h : Tbl D X M v ids w) (c : Cn) (hv : valid c = true) (hc : InC c) (hp : place ids c = none) (hn : 65536 ≤ ids.length) :
    Calls Tryd.prog 7 #[.pointer (some ⟨X, 0, none⟩), cnV c] w fun e w' => e = .returned (.tuple #[.int .i64 0, .int .i64 6]) ∧ Below w.heap.size w w' := by
  have hfind : ∀ x, Tbl D X M v ids x → Calls Tryd.prog 9 #[.pointer (some ⟨X, 0, none⟩), .agg #[.int .i64 c.kind, .int .i64 c.int, .string ⟨c.text.toArray⟩]] x fun e w' => e = .returned (.int .i64 (-1)) ∧ Below x.heap.size x w' := fun x hx => by
    have := find_any hx c hc
    rw [findI, hp] at this
    exact this
  obtain ⟨w2, hw2⟩ : ∃ w2, w2 = w.alloc (cnO c) := ⟨_, rfl⟩
  obtain ⟨c0, c1, c2, _, _, _⟩ := three_cells (w := w2) (b := w.heap.size) (x := .int .i64 c.kind) (y := .int .i64 c.int) (z := .string ⟨c.text.toArray⟩) (t := 26) (by rw [hw2]; exact heap_alloc_new w _)
  have hb2 : Below w.heap.size w w2 := by rw [hw2]; exact up_alloc _ _
  have hlt : w.heap.size < w2.heap.size := by rw [hw2]; simp
  have hT := h.up hb2
  obtain ⟨k, hk⟩ : ∃ k, k = w.heap.size := ⟨_, rfl⟩
  have HK := Lib.hid hk
  have HB2 := Lib.hid hb2
  have HKM : Hid (k ≠ M) := Lib.hid (by have := h.map.lt; omega)
  have HKX : Hid (k ≠ X) := Lib.hid (by have := heap_lt h.blk; omega)
  have HKV : Hid (∀ i, v.ownBlock = some i → i < w.heap.size) := Lib.hid fun i e => (h.own.lt i e).2
  have hval := valid_any c w2
  rw [hv] at hval
  unfold cnV at hval
  rw [← hk] at hlt c0 c1 c2
  go_enter Tryd.func7, Tryd.ntmps7
  unfold cnV
  go_upto_region 1 with fail
  change Code.wp Tryd.prog _ _ _ (w.alloc (cnO c))
  rw [← hw2, ← hk]
  clear hw2 hk h hb2
  obtain ⟨n, hnn⟩ : ∃ n, n = ids.length := ⟨_, rfl⟩
  have hlen : ∀ {D X M : Nat} {v : Value} {w : World} (h : Tbl D X M v ids w), Calls Tryd.prog 12 #[.pointer (some ⟨X, 0, none⟩)] w fun e w' => e = .returned (.int .i64 (n : Int)) ∧ w' = w := fun h => by rw [hnn]; exact len_any h
  have hfull : (65536 : Int) ≤ (n : Int) := by omega
  clear hnn hn hv hp
  go_upto_region 5 with (go_at_call 8; refine hval.mono ?_; rintro e w3 ⟨rfl, hb3⟩)
  have HT3 := Lib.hid (hT.up hb3)
  have HB3 := Lib.hid (HB2.out.trans (hb3.mono HB2.out.size))
  have d0 := (hb3.cell (p := ⟨k, 0, none⟩) hlt).trans c0
  have d1 := (hb3.cell (p := ⟨k, 1, none⟩) hlt).trans c1
  have d2 := (hb3.cell (p := ⟨k, 2, none⟩) hlt).trans c2
  have hlt3 := Nat.lt_of_lt_of_le hlt hb3.size
  clear c0 c1 c2 hb3 hlt hval hT
  rename _ = some (Value.int IntKind.i64 c.kind) => c0
  rename _ = some (Value.int IntKind.i64 c.int) => c1
  rename _ = some (Value.string _) => c2
  rename k < _ => hlt
  refine wp_region_H (fun x => Below w3.heap.size w3 x) (by kernel_rfl) ?_
  have hS0 : Below w3.heap.size w3 w3.drew := (Below.refl _ _).drew
  refine wpAnyH_tk 0 (some 14) (.pointer (some ⟨X, 0, none⟩)) rfl rfl (by kernel_rfl) (fun _ _ _ h => h) (by assumption) (Or.inl ⟨by kernel_rfl, fun z hx => ?_⟩) ?_
  · clear hx; go_simp; first | done | rfl
  refine wpAnyH_tk 1 (some 15) (.pointer (some ⟨X, 0, none⟩)) rfl rfl (by kernel_rfl) (fun _ _ _ h => h) (by assumption) (Or.inl ⟨by kernel_rfl, fun z hx => ?_⟩) ?_
  · clear hx; go_simp; first | done | rfl
  refine wpAnyH_tk 2 (some 16) (.pointer (some ⟨X, 0, none⟩)) rfl rfl (by kernel_rfl) (fun _ _ _ h => h) (by assumption) (Or.inl ⟨by kernel_rfl, fun z hx => ?_⟩) ?_
  · clear hx; go_simp; first | done | rfl
  refine wpAnyH_tk 3 (some 17) (.agg #[.int .i64 c.kind, .int .i64 c.int, .string ⟨c.text.toArray⟩]) rfl rfl (by kernel_rfl) (fun _ _ _ h => h) (by assumption) (Or.inl ⟨by kernel_rfl, fun z hx => ?_⟩) ?_
  · have q0 := (hx.cell (p := ⟨k, 0, none⟩) hlt).trans c0; have q1 := (hx.cell (p := ⟨k, 1, none⟩) hlt).trans c1; have q2 := (hx.cell (p := ⟨k, 2, none⟩) hlt).trans c2; clear hx; go_simp; first | done | rfl
  refine wpAnyH_one 4 rfl (by kernel_rfl) (fun K' hK' => ?_)
  rw [if_pos (by kernel_rfl)]
  go_simp
  go_at_call 9
  refine (hfind _ (HT3.out.up hS0)).mono ?_
  rintro e w4 ⟨rfl, hb4⟩
  have hS4 : Below w3.heap.size w3 w4 := hS0.trans hb4
  clear hb4
  go_simp
  refine hK' _ _ hS4 ?_
  clear hK'
  clear hS0
  refine wpAnyH_tk 5 (some 19) (.bool true) rfl rfl (by kernel_rfl) (fun _ _ _ h => h) (by assumption) (Or.inl ⟨by kernel_rfl, fun z hx => ?_⟩) ?_
  · clear hx; go_simp; first | done | rfl | exact hneg | (simp; done)
  refine wpAnyH_tk 6 (some 20) (.bool true) rfl rfl (by kernel_rfl) (fun _ _ _ h => h) (by assumption) (Or.inl ⟨by kernel_rfl, fun z hx => ?_⟩) ?_
  · clear hx; go_simp; first | done | rfl
  refine wpAnyH_tk 7 (some 21) (.pointer (some ⟨X, 0, none⟩)) rfl rfl (by kernel_rfl) (fun _ _ _ h => h) (by assumption) (Or.inl ⟨by kernel_rfl, fun z hx => ?_⟩) ?_
  · clear hx; go_simp; first | done | rfl
  refine wpAnyH_tk 8 (some 22) (.pointer (some ⟨X, 0, none⟩)) rfl rfl (by kernel_rfl) (fun _ _ _ h => h) (by assumption) (Or.inl ⟨by kernel_rfl, fun z hx => ?_⟩) ?_
  · clear hx; go_simp; first | done | rfl
  refine wpAnyH_tk 9 (some 23) (.pointer (some ⟨X, 0, none⟩)) rfl rfl (by kernel_rfl) (fun _ _ _ h => h) (by assumption) (Or.inl ⟨by kernel_rfl, fun z hx => ?_⟩) ?_
  · clear hx; go_simp; first | done | rfl
  refine wpAnyH_one 10 rfl (by kernel_rfl) (fun K' hK' => ?_)
  rw [if_pos (by kernel_rfl)]
  go_simp
  go_at_call 12
  refine (hlen (HT3.out.up hS4)).mono ?_
  rintro e w5 ⟨rfl, hw5⟩
  rw [hw5]
  clear hw5
  go_simp
  refine hK' _ _ hS4 ?_
  clear hK'
  refine wpAnyH_tk 11 (some 25) (.bool true) rfl rfl (by kernel_rfl) (fun _ _ _ h => h) (by assumption) (Or.inl ⟨by kernel_rfl, fun z hx => ?_⟩) ?_
  · clear hx; go_simp; first | done | rfl | exact hfull | (simp [hfull]; done)
  refine wpAnyH_tk 12 (some 26) (.bool true) rfl rfl (by kernel_rfl) (fun _ _ _ h => h) (by assumption) (Or.inl ⟨by kernel_rfl, fun z hx => ?_⟩) ?_
  · clear hx; go_simp; first | done | rfl
  refine wpAnyH_tk 13 (some 13) (.bool true) rfl rfl (by kernel_rfl) (fun _ _ _ h => h) (by assumption) (Or.inl ⟨by kernel_rfl, fun z hx => ?_⟩) ?_
  · clear hx; go_simp; first | done | rfl
  refine wpAnyH_done (by kernel_rfl) ?_ _
  go_simp
  go_wp2
  all_goals go_ret2
  exact ⟨rfl, HB3.out.trans (hS4.mono HB3.out.size)⟩

set_option maxRecDepth 100000 in
set_option maxHeartbeats 6400000 in
theorem tintern_new {D X M : Nat} {v : Value} {ids : List Cn} {w : World} (h : Tbl D X M v ids w) (c : Cn) (hv : valid c = true) (hc : InC c) (hp : place ids c = none) (hn : ids.length < 65536) (hD : D ≤ w.heap.size) :
    Calls Tryd.prog 7 #[.pointer (some ⟨X, 0, none⟩), cnV c] w fun e w' => ∃ v', e = .returned (.tuple #[.int .i64 (ids.length : Int), .int .i64 0]) ∧ Tbl D X M v' (ids ++ [c]) w' ∧ Ch X M v w w' ∧ (v'.ownBlock = v.ownBlock ∨ ∃ k, v'.ownBlock = some k ∧ w.heap.size ≤ k) := by
  have hfind : ∀ x, Tbl D X M v ids x → Calls Tryd.prog 9 #[.pointer (some ⟨X, 0, none⟩), .agg #[.int .i64 c.kind, .int .i64 c.int, .string ⟨c.text.toArray⟩]] x fun e w' => e = .returned (.int .i64 (-1)) ∧ Below x.heap.size x w' := fun x hx => by
    have := find_any hx c hc
    rw [findI, hp] at this
    exact this
  obtain ⟨n, hnn⟩ : ∃ n, n = ids.length := ⟨_, rfl⟩
  have hlen : ∀ {D X M : Nat} {v : Value} {w : World} (h : Tbl D X M v ids w), Calls Tryd.prog 12 #[.pointer (some ⟨X, 0, none⟩)] w fun e w' => e = .returned (.int .i64 (n : Int)) ∧ w' = w := fun h => by rw [hnn]; exact len_any h
  have HIN : Hid (∀ x, Tbl D X M v ids x → D ≤ x.heap.size → Calls Tryd.prog 23 #[.pointer (some ⟨X, 0, none⟩), cnV c] x fun e w' => ∃ v', e = .returned (.int .i64 (n : Int)) ∧ Tbl D X M v' (ids ++ [c]) w' ∧ Ch X M v x w' ∧ (v'.ownBlock = v.ownBlock ∨ ∃ k, v'.ownBlock = some k ∧ x.heap.size ≤ k)) := Lib.hid fun x hx hDx => by rw [hnn]; exact intern_new hx c hc hp (by omega) hDx
  rw [← hnn]
  obtain ⟨w2, hw2⟩ : ∃ w2, w2 = w.alloc (cnO c) := ⟨_, rfl⟩
  obtain ⟨c0, c1, c2, _, _, _⟩ := three_cells (w := w2) (b := w.heap.size) (x := .int .i64 c.kind) (y := .int .i64 c.int) (z := .string ⟨c.text.toArray⟩) (t := 26) (by rw [hw2]; exact heap_alloc_new w _)
  have hb2 : Below w.heap.size w w2 := by rw [hw2]; exact up_alloc _ _
  have hlt : w.heap.size < w2.heap.size := by rw [hw2]; simp
  have hT := h.up hb2
  obtain ⟨k, hk⟩ : ∃ k, k = w.heap.size := ⟨_, rfl⟩
  have HK := Lib.hid hk
  have HB2 := Lib.hid hb2
  have HKM : Hid (k ≠ M) := Lib.hid (by have := h.map.lt; omega)
  have HKX : Hid (k ≠ X) := Lib.hid (by have := heap_lt h.blk; omega)
  have HKV : Hid (∀ i, v.ownBlock = some i → i < w.heap.size) := Lib.hid fun i e => (h.own.lt i e).2
  have hval := valid_any c w2
  rw [hv] at hval
  unfold cnV at hval
  rw [← hk] at hlt c0 c1 c2
  go_enter Tryd.func7, Tryd.ntmps7
  unfold cnV
  go_upto_region 1 with fail
  change Code.wp Tryd.prog _ _ _ (w.alloc (cnO c))
  rw [← hw2, ← hk]
  clear hw2 hk h hb2
  have hfull : ¬ (65536 : Int) ≤ (n : Int) := by omega
  clear hnn hn hv hp
  go_upto_region 5 with (go_at_call 8; refine hval.mono ?_; rintro e w3 ⟨rfl, hb3⟩)
  have HT3 := Lib.hid (hT.up hb3)
  have HB3 := Lib.hid (HB2.out.trans (hb3.mono HB2.out.size))
  have d0 := (hb3.cell (p := ⟨k, 0, none⟩) hlt).trans c0
  have d1 := (hb3.cell (p := ⟨k, 1, none⟩) hlt).trans c1
  have d2 := (hb3.cell (p := ⟨k, 2, none⟩) hlt).trans c2
  have hlt3 := Nat.lt_of_lt_of_le hlt hb3.size
  clear c0 c1 c2 hb3 hlt hval hT
  rename _ = some (Value.int IntKind.i64 c.kind) => c0
  rename _ = some (Value.int IntKind.i64 c.int) => c1
  rename _ = some (Value.string _) => c2
  rename k < _ => hlt
  refine wp_region_H (fun x => Below w3.heap.size w3 x) (by kernel_rfl) ?_
  have hS0 : Below w3.heap.size w3 w3.drew := (Below.refl _ _).drew
  refine wpAnyH_tk 0 (some 14) (.pointer (some ⟨X, 0, none⟩)) rfl rfl (by kernel_rfl) (fun _ _ _ h => h) (by assumption) (Or.inl ⟨by kernel_rfl, fun z hx => ?_⟩) ?_
  · clear hx; go_simp; first | done | rfl
  refine wpAnyH_tk 1 (some 15) (.pointer (some ⟨X, 0, none⟩)) rfl rfl (by kernel_rfl) (fun _ _ _ h => h) (by assumption) (Or.inl ⟨by kernel_rfl, fun z hx => ?_⟩) ?_
  · clear hx; go_simp; first | done | rfl
  refine wpAnyH_tk 2 (some 16) (.pointer (some ⟨X, 0, none⟩)) rfl rfl (by kernel_rfl) (fun _ _ _ h => h) (by assumption) (Or.inl ⟨by kernel_rfl, fun z hx => ?_⟩) ?_
  · clear hx; go_simp; first | done | rfl
  refine wpAnyH_tk 3 (some 17) (.agg #[.int .i64 c.kind, .int .i64 c.int, .string ⟨c.text.toArray⟩]) rfl rfl (by kernel_rfl) (fun _ _ _ h => h) (by assumption) (Or.inl ⟨by kernel_rfl, fun z hx => ?_⟩) ?_
  · have q0 := (hx.cell (p := ⟨k, 0, none⟩) hlt).trans c0; have q1 := (hx.cell (p := ⟨k, 1, none⟩) hlt).trans c1; have q2 := (hx.cell (p := ⟨k, 2, none⟩) hlt).trans c2; clear hx; go_simp; first | done | rfl
  refine wpAnyH_one 4 rfl (by kernel_rfl) (fun K' hK' => ?_)
  rw [if_pos (by kernel_rfl)]
  go_simp
  go_at_call 9
  refine (hfind _ (HT3.out.up hS0)).mono ?_
  rintro e w4 ⟨rfl, hb4⟩
  have hS4 : Below w3.heap.size w3 w4 := hS0.trans hb4
  clear hb4
  go_simp
  refine hK' _ _ hS4 ?_
  clear hK'
  clear hS0
  refine wpAnyH_tk 5 (some 19) (.bool true) rfl rfl (by kernel_rfl) (fun _ _ _ h => h) (by assumption) (Or.inl ⟨by kernel_rfl, fun z hx => ?_⟩) ?_
  · clear hx; go_simp; first | done | rfl | exact hneg | (simp; done)
  refine wpAnyH_tk 6 (some 20) (.bool true) rfl rfl (by kernel_rfl) (fun _ _ _ h => h) (by assumption) (Or.inl ⟨by kernel_rfl, fun z hx => ?_⟩) ?_
  · clear hx; go_simp; first | done | rfl
  refine wpAnyH_tk 7 (some 21) (.pointer (some ⟨X, 0, none⟩)) rfl rfl (by kernel_rfl) (fun _ _ _ h => h) (by assumption) (Or.inl ⟨by kernel_rfl, fun z hx => ?_⟩) ?_
  · clear hx; go_simp; first | done | rfl
  refine wpAnyH_tk 8 (some 22) (.pointer (some ⟨X, 0, none⟩)) rfl rfl (by kernel_rfl) (fun _ _ _ h => h) (by assumption) (Or.inl ⟨by kernel_rfl, fun z hx => ?_⟩) ?_
  · clear hx; go_simp; first | done | rfl
  refine wpAnyH_tk 9 (some 23) (.pointer (some ⟨X, 0, none⟩)) rfl rfl (by kernel_rfl) (fun _ _ _ h => h) (by assumption) (Or.inl ⟨by kernel_rfl, fun z hx => ?_⟩) ?_
  · clear hx; go_simp; first | done | rfl
  refine wpAnyH_one 10 rfl (by kernel_rfl) (fun K' hK' => ?_)
  rw [if_pos (by kernel_rfl)]
  go_simp
  go_at_call 12
  refine (hlen (HT3.out.up hS4)).mono ?_
  rintro e w5 ⟨rfl, hw5⟩
  rw [hw5]
  clear hw5
  go_simp
  refine hK' _ _ hS4 ?_
  clear hK'
  refine wpAnyH_tk 11 (some 25) (.bool false) rfl rfl (by kernel_rfl) (fun _ _ _ h => h) (by assumption) (Or.inl ⟨by kernel_rfl, fun z hx => ?_⟩) ?_
  · clear hx; go_simp; first | done | rfl | exact hfull | (simp [hfull]; done)
  refine wpAnyH_tk 12 (some 26) (.bool false) rfl rfl (by kernel_rfl) (fun _ _ _ h => h) (by assumption) (Or.inl ⟨by kernel_rfl, fun z hx => ?_⟩) ?_
  · clear hx; go_simp; first | done | rfl
  refine wpAnyH_tk 13 (some 13) (.bool false) rfl rfl (by kernel_rfl) (fun _ _ _ h => h) (by assumption) (Or.inl ⟨by kernel_rfl, fun z hx => ?_⟩) ?_
  · clear hx; go_simp; first | done | rfl
  refine wpAnyH_done (by kernel_rfl) ?_ _
  go_simp
  have q0 := (hS4.cell (p := ⟨k, 0, none⟩) hlt).trans c0
  have q1 := (hS4.cell (p := ⟨k, 1, none⟩) hlt).trans c1
  have q2 := (hS4.cell (p := ⟨k, 2, none⟩) hlt).trans c2
  have HT4 := Lib.hid (HT3.out.up hS4)
  have HB4 := Lib.hid (HB3.out.trans (hS4.mono HB3.out.size))
  have hlt4 := Nat.lt_of_lt_of_le hlt hS4.size
  clear c0 c1 c2 hS4 hlt hfind
  go_upto_region 7 with fail
  refine wp_region_H (fun x => x.heap[k]? = w4.heap[k]?) (by kernel_rfl) ?_
  have hS0 : w4.drew.heap[k]? = w4.heap[k]? := rfl
  refine wpAnyH_tk 0 (some 27) (.pointer (some ⟨X, 0, none⟩)) rfl rfl (by kernel_rfl) (fun _ _ _ h => h) (by assumption) (Or.inl ⟨by kernel_rfl, fun z hx => ?_⟩) ?_
  · clear hx; go_simp; first | done | rfl
  refine wpAnyH_tk 1 (some 28) (.pointer (some ⟨X, 0, none⟩)) rfl rfl (by kernel_rfl) (fun _ _ _ h => h) (by assumption) (Or.inl ⟨by kernel_rfl, fun z hx => ?_⟩) ?_
  · clear hx; go_simp; first | done | rfl
  refine wpAnyH_tk 2 (some 29) (.pointer (some ⟨X, 0, none⟩)) rfl rfl (by kernel_rfl) (fun _ _ _ h => h) (by assumption) (Or.inl ⟨by kernel_rfl, fun z hx => ?_⟩) ?_
  · clear hx; go_simp; first | done | rfl
  refine wpAnyH_tk 3 (some 30) (.agg #[.int .i64 c.kind, .int .i64 c.int, .string ⟨c.text.toArray⟩]) rfl rfl (by kernel_rfl) (fun _ _ _ h => h) (by assumption) (Or.inl ⟨by kernel_rfl, fun z hx => ?_⟩) ?_
  · have q0' : z.cell? ⟨k, 0, none⟩ = some (.int .i64 c.kind) := (World.cell?_of_block hx).trans q0
    have q1' : z.cell? ⟨k, 1, none⟩ = some (.int .i64 c.int) := (World.cell?_of_block hx).trans q1
    have q2' : z.cell? ⟨k, 2, none⟩ = some (.string ⟨c.text.toArray⟩) := (World.cell?_of_block hx).trans q2
    clear hx; go_simp; first | done | rfl
  refine wpAnyH_one 4 rfl (by kernel_rfl) (fun K' hK' => ?_)
  rw [if_pos (by kernel_rfl)]
  go_simp
  go_at_call 23
  refine (HIN.out _ (HT4.out.up (Below.refl _ _).drew) (by have := HB4.out.size; simp; omega)).mono ?_
  rintro e w5 ⟨v', rfl, ht5, hch0, hw⟩
  have hch : Ch X M v w4 w5 := Ch.after (Below.refl _ _).drew hch0
  have hS5 : w5.heap[k]? = w4.heap[k]? := hch.old k hlt4 HKX.out HKM.out (fun e => by have := HKV.out k e; have := HK.out; omega)
  clear hch0
  go_simp
  refine hK' _ _ hS5 ?_
  clear hK'
  clear hS0
  refine wpAnyH_tk 5 (some 4) (.int .i64 (n : Int)) rfl rfl (by kernel_rfl) (fun _ _ _ h => h) (by assumption) (Or.inl ⟨by kernel_rfl, fun z hx => ?_⟩) ?_
  · clear hx; go_simp; first | done | rfl
  refine wpAnyH_tk 6 (some 5) (.int .i64 0) rfl rfl (by kernel_rfl) (fun _ _ _ h => h) (by assumption) (Or.inl ⟨by kernel_rfl, fun z hx => ?_⟩) ?_
  · clear hx; go_simp; first | done | rfl
  refine wpAnyH_done (by kernel_rfl) ?_ _
  go_simp
  go_wp2
  all_goals go_ret2
  exact ⟨v', rfl, ht5, hch.after HB4.out, by
    rcases hw with e | ⟨k', e, hk'⟩
    · exact .inl e
    · exact .inr ⟨k', e, by have := HB4.out.size; simp at hk'; omega⟩⟩

set_option maxRecDepth 100000 in
set_option maxHeartbeats 6400000 in
theorem tintern_old {D X M : Nat} {v : Value} {ids : List Cn} {w : World} (h : Tbl D X M v ids w) (c : Cn) (hv : valid c = true) (hc : InC c) (i : Nat) (hp : place ids c = some i) :
    Calls Tryd.prog 7 #[.pointer (some ⟨X, 0, none⟩), cnV c] w fun e w' => e = .returned (.tuple #[.int .i64 (i : Int), .int .i64 0]) ∧ Below w.heap.size w w' := by
  have hfind : ∀ x, Tbl D X M v ids x → Calls Tryd.prog 9 #[.pointer (some ⟨X, 0, none⟩), .agg #[.int .i64 c.kind, .int .i64 c.int, .string ⟨c.text.toArray⟩]] x fun e w' => e = .returned (.int .i64 (i : Int)) ∧ Below x.heap.size x w' := fun x hx => by
    have := find_any hx c hc
    rw [findI, hp] at this
    exact this
  have HIN : Hid (∀ x, Tbl D X M v ids x → Calls Tryd.prog 23 #[.pointer (some ⟨X, 0, none⟩), cnV c] x fun e w' => e = .returned (.int .i64 (i : Int)) ∧ Below x.heap.size x w') := Lib.hid fun x hx => intern_old hx c hc i hp
  obtain ⟨w2, hw2⟩ : ∃ w2, w2 = w.alloc (cnO c) := ⟨_, rfl⟩
  obtain ⟨c0, c1, c2, _, _, _⟩ := three_cells (w := w2) (b := w.heap.size) (x := .int .i64 c.kind) (y := .int .i64 c.int) (z := .string ⟨c.text.toArray⟩) (t := 26) (by rw [hw2]; exact heap_alloc_new w _)
  have hb2 : Below w.heap.size w w2 := by rw [hw2]; exact up_alloc _ _
  have hlt : w.heap.size < w2.heap.size := by rw [hw2]; simp
  have hT := h.up hb2
  obtain ⟨k, hk⟩ : ∃ k, k = w.heap.size := ⟨_, rfl⟩
  have HK := Lib.hid hk
  have HB2 := Lib.hid hb2
  have HKM : Hid (k ≠ M) := Lib.hid (by have := h.map.lt; omega)
  have HKX : Hid (k ≠ X) := Lib.hid (by have := heap_lt h.blk; omega)
  have HKV : Hid (∀ i, v.ownBlock = some i → i < w.heap.size) := Lib.hid fun i e => (h.own.lt i e).2
  have hval := valid_any c w2
  rw [hv] at hval
  unfold cnV at hval
  rw [← hk] at hlt c0 c1 c2
  go_enter Tryd.func7, Tryd.ntmps7
  unfold cnV
  go_upto_region 1 with fail
  change Code.wp Tryd.prog _ _ _ (w.alloc (cnO c))
  rw [← hw2, ← hk]
  clear hw2 hk h hb2
  have hneg : ¬ (i : Int) < 0 := by omega
  have hneg' : (0 : Int) ≤ (i : Int) := by omega
  clear hv hp
  go_upto_region 5 with (go_at_call 8; refine hval.mono ?_; rintro e w3 ⟨rfl, hb3⟩)
  have HT3 := Lib.hid (hT.up hb3)
  have HB3 := Lib.hid (HB2.out.trans (hb3.mono HB2.out.size))
  have d0 := (hb3.cell (p := ⟨k, 0, none⟩) hlt).trans c0
  have d1 := (hb3.cell (p := ⟨k, 1, none⟩) hlt).trans c1
  have d2 := (hb3.cell (p := ⟨k, 2, none⟩) hlt).trans c2
  have hlt3 := Nat.lt_of_lt_of_le hlt hb3.size
  clear c0 c1 c2 hb3 hlt hval hT
  rename _ = some (Value.int IntKind.i64 c.kind) => c0
  rename _ = some (Value.int IntKind.i64 c.int) => c1
  rename _ = some (Value.string _) => c2
  rename k < _ => hlt
  refine wp_region_H (fun x => Below w3.heap.size w3 x) (by kernel_rfl) ?_
  have hS0 : Below w3.heap.size w3 w3.drew := (Below.refl _ _).drew
  refine wpAnyH_tk 0 (some 14) (.pointer (some ⟨X, 0, none⟩)) rfl rfl (by kernel_rfl) (fun _ _ _ h => h) (by assumption) (Or.inl ⟨by kernel_rfl, fun z hx => ?_⟩) ?_
  · clear hx; go_simp; first | done | rfl
  refine wpAnyH_tk 1 (some 15) (.pointer (some ⟨X, 0, none⟩)) rfl rfl (by kernel_rfl) (fun _ _ _ h => h) (by assumption) (Or.inl ⟨by kernel_rfl, fun z hx => ?_⟩) ?_
  · clear hx; go_simp; first | done | rfl
  refine wpAnyH_tk 2 (some 16) (.pointer (some ⟨X, 0, none⟩)) rfl rfl (by kernel_rfl) (fun _ _ _ h => h) (by assumption) (Or.inl ⟨by kernel_rfl, fun z hx => ?_⟩) ?_
  · clear hx; go_simp; first | done | rfl
  refine wpAnyH_tk 3 (some 17) (.agg #[.int .i64 c.kind, .int .i64 c.int, .string ⟨c.text.toArray⟩]) rfl rfl (by kernel_rfl) (fun _ _ _ h => h) (by assumption) (Or.inl ⟨by kernel_rfl, fun z hx => ?_⟩) ?_
  · have q0 := (hx.cell (p := ⟨k, 0, none⟩) hlt).trans c0; have q1 := (hx.cell (p := ⟨k, 1, none⟩) hlt).trans c1; have q2 := (hx.cell (p := ⟨k, 2, none⟩) hlt).trans c2; clear hx; go_simp; first | done | rfl
  refine wpAnyH_one 4 rfl (by kernel_rfl) (fun K' hK' => ?_)
  rw [if_pos (by kernel_rfl)]
  go_simp
  go_at_call 9
  refine (hfind _ (HT3.out.up hS0)).mono ?_
  rintro e w4 ⟨rfl, hb4⟩
  have hS4 : Below w3.heap.size w3 w4 := hS0.trans hb4
  clear hb4
  go_simp
  refine hK' _ _ hS4 ?_
  clear hK'
  clear hS0
  refine wpAnyH_tk 5 (some 19) (.bool false) rfl rfl (by kernel_rfl) (fun _ _ _ h => h) (by assumption) (Or.inl ⟨by kernel_rfl, fun z hx => ?_⟩) ?_
  · clear hx; go_simp; first | done | rfl | exact hneg | (simp; done)
  refine wpAnyH_tk 6 (some 20) (.bool false) rfl rfl (by kernel_rfl) (fun _ _ _ h => h) (by assumption) (Or.inl ⟨by kernel_rfl, fun z hx => ?_⟩) ?_
  · clear hx; go_simp; first | done | rfl
  refine wpAnyH_tk 7 (some 21) undef rfl rfl (by kernel_rfl) (fun _ _ _ h => h) (by assumption) (Or.inr ⟨by kernel_rfl, rfl⟩) ?_
  refine wpAnyH_tk 8 (some 22) undef rfl rfl (by kernel_rfl) (fun _ _ _ h => h) (by assumption) (Or.inr ⟨by kernel_rfl, rfl⟩) ?_
  refine wpAnyH_tk 9 (some 23) undef rfl rfl (by kernel_rfl) (fun _ _ _ h => h) (by assumption) (Or.inr ⟨by kernel_rfl, rfl⟩) ?_
  refine wpAnyH_tk 10 (some 24) undef rfl rfl (by kernel_rfl) (fun _ _ _ h => h) (by assumption) (Or.inr ⟨by kernel_rfl, rfl⟩) ?_
  refine wpAnyH_tk 11 (some 25) undef rfl rfl (by kernel_rfl) (fun _ _ _ h => h) (by assumption) (Or.inr ⟨by kernel_rfl, rfl⟩) ?_
  refine wpAnyH_tk 12 (some 26) (.bool false) rfl rfl (by kernel_rfl) (fun _ _ _ h => h) (by assumption) (Or.inl ⟨by kernel_rfl, fun z hx => ?_⟩) ?_
  · clear hx; go_simp; first | done | rfl
  refine wpAnyH_tk 13 (some 13) (.bool false) rfl rfl (by kernel_rfl) (fun _ _ _ h => h) (by assumption) (Or.inl ⟨by kernel_rfl, fun z hx => ?_⟩) ?_
  · clear hx; go_simp; first | done | rfl
  refine wpAnyH_done (by kernel_rfl) ?_ _
  go_simp
  have q0 := (hS4.cell (p := ⟨k, 0, none⟩) hlt).trans c0
  have q1 := (hS4.cell (p := ⟨k, 1, none⟩) hlt).trans c1
  have q2 := (hS4.cell (p := ⟨k, 2, none⟩) hlt).trans c2
  have HT4 := Lib.hid (HT3.out.up hS4)
  have HB4 := Lib.hid (HB3.out.trans (hS4.mono HB3.out.size))
  have hlt4 := Nat.lt_of_lt_of_le hlt hS4.size
  clear c0 c1 c2 hS4 hlt hfind
  go_upto_region 7 with fail
  refine wp_region_H (fun x => x.heap[k]? = w4.heap[k]?) (by kernel_rfl) ?_
  have hS0 : w4.drew.heap[k]? = w4.heap[k]? := rfl
  refine wpAnyH_tk 0 (some 27) (.pointer (some ⟨X, 0, none⟩)) rfl rfl (by kernel_rfl) (fun _ _ _ h => h) (by assumption) (Or.inl ⟨by kernel_rfl, fun z hx => ?_⟩) ?_
  · clear hx; go_simp; first | done | rfl
  refine wpAnyH_tk 1 (some 28) (.pointer (some ⟨X, 0, none⟩)) rfl rfl (by kernel_rfl) (fun _ _ _ h => h) (by assumption) (Or.inl ⟨by kernel_rfl, fun z hx => ?_⟩) ?_
  · clear hx; go_simp; first | done | rfl
  refine wpAnyH_tk 2 (some 29) (.pointer (some ⟨X, 0, none⟩)) rfl rfl (by kernel_rfl) (fun _ _ _ h => h) (by assumption) (Or.inl ⟨by kernel_rfl, fun z hx => ?_⟩) ?_
  · clear hx; go_simp; first | done | rfl
  refine wpAnyH_tk 3 (some 30) (.agg #[.int .i64 c.kind, .int .i64 c.int, .string ⟨c.text.toArray⟩]) rfl rfl (by kernel_rfl) (fun _ _ _ h => h) (by assumption) (Or.inl ⟨by kernel_rfl, fun z hx => ?_⟩) ?_
  · have q0' : z.cell? ⟨k, 0, none⟩ = some (.int .i64 c.kind) := (World.cell?_of_block hx).trans q0
    have q1' : z.cell? ⟨k, 1, none⟩ = some (.int .i64 c.int) := (World.cell?_of_block hx).trans q1
    have q2' : z.cell? ⟨k, 2, none⟩ = some (.string ⟨c.text.toArray⟩) := (World.cell?_of_block hx).trans q2
    clear hx; go_simp; first | done | rfl
  refine wpAnyH_one 4 rfl (by kernel_rfl) (fun K' hK' => ?_)
  rw [if_pos (by kernel_rfl)]
  go_simp
  go_at_call 23
  refine (HIN.out _ (HT4.out.up (Below.refl _ _).drew)).mono ?_
  rintro e w5 ⟨rfl, hb5⟩
  have hS5 : w5.heap[k]? = w4.heap[k]? := hb5.block k hlt4
  go_simp
  refine hK' _ _ hS5 ?_
  clear hK'
  clear hS0
  refine wpAnyH_tk 5 (some 4) (.int .i64 (i : Int)) rfl rfl (by kernel_rfl) (fun _ _ _ h => h) (by assumption) (Or.inl ⟨by kernel_rfl, fun z hx => ?_⟩) ?_
  · clear hx; go_simp; first | done | rfl
  refine wpAnyH_tk 6 (some 5) (.int .i64 0) rfl rfl (by kernel_rfl) (fun _ _ _ h => h) (by assumption) (Or.inl ⟨by kernel_rfl, fun z hx => ?_⟩) ?_
  · clear hx; go_simp; first | done | rfl
  refine wpAnyH_done (by kernel_rfl) ?_ _
  go_simp
  go_wp2
  all_goals go_ret2
  exact ⟨rfl, HB4.out.trans ((Below.refl _ _).drew.trans hb5 |>.mono HB4.out.size)⟩
end Go.Proofs.YtijmogehmcjopaaDoor
