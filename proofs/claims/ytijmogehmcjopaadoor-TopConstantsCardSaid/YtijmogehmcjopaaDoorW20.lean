/-
  The walk of the table's inner Intern. Conditions: the table as it stands; a constant in memory; at most 65536 constants.
-/
import Derived.Test.YtijmogehmcjopaaDoorW19
import Derived.Maps.AppendAt
namespace Go.Proofs.YtijmogehmcjopaaDoor
open Go.RowKit Go.Maps Ct

theorem info26 : (Tryd.prog.info? 26).map (fun i => (i.zero, i.size, i.bytes)) = some (some (.agg #[.int .i64 0, .int .i64 0, .string nilB]), 3, 32) := by kernel_rfl
theorem wp_append_at {P : Program} {o : Oper} {a : Act} {w : World} {K : Act → World → Prop} {Q : Exit → Act → World → Prop} (s x : Operand) (t : TypeId)
    (ho : o.op = .call { callee := .builtin .append, args := #[s, x], argTypes := #[t, t] })
    (base : Nat) (e : TypeId) (i : TypeInfo) (z : Value) (size bytes : Nat) (ht : P.underlying t = some (.slice e)) (hi : P.info? e = some i) (hz : i.zero = some z)
    (hsize : i.size = size) (hby : i.bytes = bytes) (hzs : z.cells.size = size) (hsz : 0 < size)
    (v : Value) (n : Nat) (xs : List Value) (hs : a.eval s = v) (hown : w.ownsRow base e size v n xs)
    (ad : Addr) (m c : Nat) (news : List Value) (hx : a.eval x = .slice (some ad) m c) (hl : news.length = m * size) (hnews : ∀ j u, news[j]? = some u → w.cell? (ad.add j) = some u) (h1 : ∀ u ∈ news, u.oneCell' = true)
    (h63 : n + m ≤ maxLen) (hbytes : (n + m) * bytes ≤ 140737488355328) (hbase : base ≤ w.heap.size)
    (h : ∀ v' w', w'.ownsRow base e size v' (n + m) (xs ++ news) → w.grownBy w' v.ownBlock → (v'.ownBlock = v.ownBlock ∨ v'.ownBlock = some w.heap.size) → K (a.put o.dst v') w') : Oper.wp P o a w K Q := by
  obtain ⟨v', w', hr, h2, h3, _, h5⟩ := run_append_own_at (P := P) w base t o.type e i z size bytes ht hi hz hsize hby hzs hsz v n xs hown ad m c news hl hnews h1 h63 hbytes hbase
  unfold Oper.wp execOp
  simp only [ho, resolve, invoke, builtin, Sem.run_bind, Sem.run_pure, Result.andThen_ok, List.map_toArray, List.map_cons, List.map_nil, hs, hx, hr]
  exact h v' w' h2 h3 h5
theorem news3 (w : World) (x y z : Value) (t : TypeId) : ∀ j u, [x, y, z][j]? = some u → (w.alloc (.cells #[x, y, z] t)).cell? ((⟨w.heap.size, 0, none⟩ : Addr).add j) = some u := by
  intro j u hj
  rw [add_zero', World.cell?_alloc_new]
  match j, hj with
  | 0, hj => exact hj
  | 1, hj => exact hj
  | 2, hj => exact hj

/-- What Intern may turn: the table's block, its map, its list. -/
structure Ch (X M : Nat) (v : Value) (w w' : World) : Prop where
  os : w'.os = w.os
  tape : w'.tape = w.tape
  output : w'.output = w.output
  size : w.heap.size ≤ w'.heap.size
  old : ∀ k, k < w.heap.size → k ≠ X → k ≠ M → v.ownBlock ≠ some k → w'.heap[k]? = w.heap[k]?
theorem Ch.of_below {X M : Nat} {v : Value} {w w' : World} (h : Below w.heap.size w w') : Ch X M v w w' := ⟨h.os, h.tape, h.output, h.size, fun k hk _ _ _ => h.block k hk⟩
theorem Ch.after {X M : Nat} {v : Value} {w w1 w' : World} (h : Below w.heap.size w w1) (k : Ch X M v w1 w') : Ch X M v w w' :=
  ⟨k.os.trans h.os, k.tape.trans h.tape, k.output.trans h.output, Nat.le_trans h.size k.size, fun i hi h1 h2 h3 => (k.old i (Nat.lt_of_lt_of_le hi h.size) h1 h2 h3).trans (h.block i hi)⟩
theorem Ch.grown {X M : Nat} {v : Value} {w w1 w' : World} {row : Option Nat} (h : Ch X M v w w1) (k : w1.grownBy w' row) (hr : ∀ i, row = some i → i = X ∨ i = M ∨ v.ownBlock = some i ∨ w.heap.size ≤ i) : Ch X M v w w' :=
  ⟨k.os.trans h.os, k.tape.trans h.tape, k.output.trans h.output, Nat.le_trans h.size k.size, fun i hi h1 h2 h3 => (k.block i (Nat.lt_of_lt_of_le hi h.size) (fun e => by
    rcases hr i e.symm with r | r | r | r
    · exact h1 r
    · exact h2 r
    · exact h3 r
    · omega)).trans (h.old i hi h1 h2 h3)⟩
theorem Ch.set {X M : Nat} {v : Value} {w w1 : World} (h : Ch X M v w w1) (j : Nat) (x : Value) : Ch X M v w (w1.setCell ⟨X, j, none⟩ x) :=
  ⟨h.os, h.tape, h.output, by simpa [World.setCell] using h.size, fun i hi h1 h2 h3 => (Below.heap_setCell _ _ _ _ h1).trans (h.old i hi h1 h2 h3)⟩
theorem Ch.below {X M D : Nat} {v : Value} {ids : List Cn} {w w' : World} (h : Ch X M v w w') (t : Tbl D X M v ids w) (hD : D ≤ w.heap.size) : Below D w w' :=
  ⟨h.os, h.tape, h.output, h.size, fun k hk => h.old k (by omega) (by have := t.lx; omega) (by have := t.lm; omega) (fun e => by have := (t.own.lt k e).1; omega)⟩

set_option maxRecDepth 100000 in
set_option maxHeartbeats 6400000 in
theorem intern_old {D X M : Nat} {v : Value} {ids : List Cn} {w : World} (h : Tbl D X M v ids w) (c : Cn) (hc : InC c) (i : Nat) (hp : place ids c = some i) :
    Calls Tryd.prog 23 #[.pointer (some ⟨X, 0, none⟩), cnV c] w fun e w' => e = .returned (.int .i64 (i : Int)) ∧ Below w.heap.size w w' := by
  obtain ⟨w2, hw2⟩ : ∃ w2, w2 = w.alloc (cnO c) := ⟨_, rfl⟩
  obtain ⟨c0, c1, c2, _, _, _⟩ := three_cells (w := w2) (b := w.heap.size) (x := .int .i64 c.kind) (y := .int .i64 c.int) (z := .string ⟨c.text.toArray⟩) (t := 26) (by rw [hw2]; exact heap_alloc_new w _)
  have hb2 : Below w.heap.size w w2 := by rw [hw2]; exact up_alloc _ _
  have hlt : w.heap.size < w2.heap.size := by rw [hw2]; simp
  have hT := h.up hb2
  have hXl : X < w2.heap.size := heap_lt hT.blk
  obtain ⟨d0, d1, _, _⟩ := two_cells hT.blk
  obtain ⟨k, hk⟩ : ∃ k, k = w.heap.size := ⟨_, rfl⟩
  have HK := Lib.hid hk
  have hlk := fun x hx => look_id (x := x) hT hc hx
  have HKB : Hid (w2.heap[k]? = some (.cells #[.int .i64 c.kind, .int .i64 c.int, .string ⟨c.text.toArray⟩] 26)) := Lib.hid (by rw [hw2, hk]; exact heap_alloc_new w _)
  have HKM : Hid (k ≠ M) := Lib.hid (by have := h.map.lt; omega)
  have HKX : Hid (k ≠ X) := Lib.hid (by have := heap_lt h.blk; omega)
  go_enter Tryd.func23, Tryd.ntmps23
  unfold cnV
  go_upto_region 1 with fail
  change Code.wp Tryd.prog _ _ _ (w.alloc (cnO c))
  rw [← hw2, ← hk]
  have HB2 := Lib.hid hb2
  rw [← hk] at hlt c0 c1 c2
  clear hw2 hk h hb2
  go_upto_region 3 with fail
  unfold cnV at hlk
  have hl : ∀ x, Below w2.heap.size w2 x → (Instr.lookup 33 (.map (some M)) (.agg #[.int .i64 c.kind, .int .i64 c.int, .string ⟨c.text.toArray⟩]) true).run Tryd.prog x = .ok (.tuple #[.int .i64 (i : Int), .bool true]) x := fun x hx => by rw [hlk x hx, hp]; rfl
  clear hlk hp
  refine wp_region_H (fun x => Below w2.heap.size w2 x) (by kernel_rfl) ?_
  have hS0 : Below w2.heap.size w2 w2.drew := (Below.refl _ _).drew
  refine wpAnyH_tk 0 (some 10) (.pointer (some ⟨X, 0, none⟩)) rfl rfl (by kernel_rfl) (fun _ _ _ h => h) (by assumption) (Or.inl ⟨by kernel_rfl, fun z hx => ?_⟩) ?_
  · clear hx; go_simp; first | done | rfl
  refine wpAnyH_tk 1 (some 11) (.pointer (some ⟨X, 0, none⟩)) rfl rfl (by kernel_rfl) (fun _ _ _ h => h) (by assumption) (Or.inl ⟨by kernel_rfl, fun z hx => ?_⟩) ?_
  · clear hx; go_simp; first | done | rfl
  refine wpAnyH_tk 2 (some 12) (.pointer (some ⟨X, 1, none⟩)) rfl rfl (by kernel_rfl) (fun _ _ _ h => h) (by assumption) (Or.inl ⟨by kernel_rfl, fun z hx => ?_⟩) ?_
  · clear hx; go_simp; first | done | rfl
  refine wpAnyH_tk 3 (some 13) (.map (some M)) rfl rfl (by kernel_rfl) (fun _ _ _ h => h) (by assumption) (Or.inl ⟨by kernel_rfl, fun z hx => ?_⟩) ?_
  · have q := (hx.cell (p := ⟨X, 1, none⟩) hXl).trans d1; clear hx; go_simp; first | done | rfl
  refine wpAnyH_tk 4 (some 14) (.agg #[.int .i64 c.kind, .int .i64 c.int, .string ⟨c.text.toArray⟩]) rfl rfl (by kernel_rfl) (fun _ _ _ h => h) (by assumption) (Or.inl ⟨by kernel_rfl, fun z hx => ?_⟩) ?_
  · have q0 := (hx.cell (p := ⟨k, 0, none⟩) hlt).trans c0; have q1 := (hx.cell (p := ⟨k, 1, none⟩) hlt).trans c1; have q2 := (hx.cell (p := ⟨k, 2, none⟩) hlt).trans c2; clear hx; go_simp; first | done | rfl
  refine wpAnyH_tk 5 (some 15) (.tuple #[.int .i64 (i : Int), .bool true]) rfl rfl (by kernel_rfl) (fun _ _ _ h => h) (by assumption) (Or.inl ⟨by kernel_rfl, fun z hx => ?_⟩) ?_
  · have q := hl z hx; clear hx; go_simp; first | done | rfl
  refine wpAnyH_tk 6 (some 9) (.tuple #[.int .i64 (i : Int), .bool true]) rfl rfl (by kernel_rfl) (fun _ _ _ h => h) (by assumption) (Or.inl ⟨by kernel_rfl, fun z hx => ?_⟩) ?_
  · clear hx; go_simp; first | done | rfl
  refine wpAnyH_tk 7 (some 16) (.int .i64 (i : Int)) rfl rfl (by kernel_rfl) (fun _ _ _ h => h) (by assumption) (Or.inl ⟨by kernel_rfl, fun z hx => ?_⟩) ?_
  · clear hx; go_simp; first | done | rfl
  refine wpAnyH_tk 8 (some 17) (.bool true) rfl rfl (by kernel_rfl) (fun _ _ _ h => h) (by assumption) (Or.inl ⟨by kernel_rfl, fun z hx => ?_⟩) ?_
  · clear hx; go_simp; first | done | rfl
  refine wpAnyH_tk 9 (some 5) (.int .i64 (i : Int)) rfl rfl (by kernel_rfl) (fun _ _ _ h => h) (by assumption) (Or.inl ⟨by kernel_rfl, fun z hx => ?_⟩) ?_
  · clear hx; go_simp; first | done | rfl
  refine wpAnyH_tk 10 (some 6) (.bool true) rfl rfl (by kernel_rfl) (fun _ _ _ h => h) (by assumption) (Or.inl ⟨by kernel_rfl, fun z hx => ?_⟩) ?_
  · clear hx; go_simp; first | done | rfl
  refine wpAnyH_done (by kernel_rfl) ?_ _
  go_simp
  go_wp2
  all_goals go_ret
  exact ⟨rfl, HB2.out.trans (hS0.mono HB2.out.size)⟩

set_option maxRecDepth 100000 in
set_option maxHeartbeats 6400000 in
theorem intern_new {D X M : Nat} {v : Value} {ids : List Cn} {w : World} (h : Tbl D X M v ids w) (c : Cn) (hc : InC c) (hp : place ids c = none) (hn : ids.length ≤ 65536) (hD : D ≤ w.heap.size) :
    Calls Tryd.prog 23 #[.pointer (some ⟨X, 0, none⟩), cnV c] w fun e w' => ∃ v', e = .returned (.int .i64 (ids.length : Int)) ∧ Tbl D X M v' (ids ++ [c]) w' ∧ Ch X M v w w' ∧ (v'.ownBlock = v.ownBlock ∨ ∃ k, v'.ownBlock = some k ∧ w.heap.size ≤ k) := by
  obtain ⟨i0, hi, hz0, hz1, hz2⟩ := info_parts info26
  obtain ⟨n, hnn⟩ : ∃ n, n = ids.length := ⟨_, rfl⟩
  rw [← hnn] at hn ⊢
  have HNN := Lib.hid hnn
  have HOX := Lib.hid h.ox
  have HOM := Lib.hid h.om
  have HVK : Hid (∀ i, v.ownBlock = some i → i < w.heap.size) := Lib.hid fun i e => (h.own.lt i e).2
  clear hnn
  obtain ⟨w2, hw2⟩ : ∃ w2, w2 = w.alloc (cnO c) := ⟨_, rfl⟩
  obtain ⟨c0, c1, c2, _, _, _⟩ := three_cells (w := w2) (b := w.heap.size) (x := .int .i64 c.kind) (y := .int .i64 c.int) (z := .string ⟨c.text.toArray⟩) (t := 26) (by rw [hw2]; exact heap_alloc_new w _)
  have hb2 : Below w.heap.size w w2 := by rw [hw2]; exact up_alloc _ _
  have hlt : w.heap.size < w2.heap.size := by rw [hw2]; simp
  have hT := h.up hb2
  have hXl : X < w2.heap.size := heap_lt hT.blk
  obtain ⟨d0, d1, _, _⟩ := two_cells hT.blk
  obtain ⟨k, hk⟩ : ∃ k, k = w.heap.size := ⟨_, rfl⟩
  have HK := Lib.hid hk
  have hlk := fun x hx => look_id (x := x) hT hc hx
  have HKB : Hid (w2.heap[k]? = some (.cells #[.int .i64 c.kind, .int .i64 c.int, .string ⟨c.text.toArray⟩] 26)) := Lib.hid (by rw [hw2, hk]; exact heap_alloc_new w _)
  have HKM : Hid (k ≠ M) := Lib.hid (by have := h.map.lt; omega)
  have HKX : Hid (k ≠ X) := Lib.hid (by have := heap_lt h.blk; omega)
  go_enter Tryd.func23, Tryd.ntmps23
  unfold cnV
  go_upto_region 1 with fail
  change Code.wp Tryd.prog _ _ _ (w.alloc (cnO c))
  rw [← hw2, ← hk]
  have HB2 := Lib.hid hb2
  rw [← hk] at hlt c0 c1 c2
  clear hw2 hk h hb2
  go_upto_region 3 with fail
  unfold cnV at hlk
  have hl : ∀ x, Below w2.heap.size w2 x → (Instr.lookup 33 (.map (some M)) (.agg #[.int .i64 c.kind, .int .i64 c.int, .string ⟨c.text.toArray⟩]) true).run Tryd.prog x = .ok (.tuple #[.int .i64 0, .bool false]) x := fun x hx => by rw [hlk x hx, hp]; rfl
  clear hlk
  refine wp_region_H (fun x => Below w2.heap.size w2 x) (by kernel_rfl) ?_
  have hS0 : Below w2.heap.size w2 w2.drew := (Below.refl _ _).drew
  refine wpAnyH_tk 0 (some 10) (.pointer (some ⟨X, 0, none⟩)) rfl rfl (by kernel_rfl) (fun _ _ _ h => h) (by assumption) (Or.inl ⟨by kernel_rfl, fun z hx => ?_⟩) ?_
  · clear hx; go_simp; first | done | rfl
  refine wpAnyH_tk 1 (some 11) (.pointer (some ⟨X, 0, none⟩)) rfl rfl (by kernel_rfl) (fun _ _ _ h => h) (by assumption) (Or.inl ⟨by kernel_rfl, fun z hx => ?_⟩) ?_
  · clear hx; go_simp; first | done | rfl
  refine wpAnyH_tk 2 (some 12) (.pointer (some ⟨X, 1, none⟩)) rfl rfl (by kernel_rfl) (fun _ _ _ h => h) (by assumption) (Or.inl ⟨by kernel_rfl, fun z hx => ?_⟩) ?_
  · clear hx; go_simp; first | done | rfl
  refine wpAnyH_tk 3 (some 13) (.map (some M)) rfl rfl (by kernel_rfl) (fun _ _ _ h => h) (by assumption) (Or.inl ⟨by kernel_rfl, fun z hx => ?_⟩) ?_
  · have q := (hx.cell (p := ⟨X, 1, none⟩) hXl).trans d1; clear hx; go_simp; first | done | rfl
  refine wpAnyH_tk 4 (some 14) (.agg #[.int .i64 c.kind, .int .i64 c.int, .string ⟨c.text.toArray⟩]) rfl rfl (by kernel_rfl) (fun _ _ _ h => h) (by assumption) (Or.inl ⟨by kernel_rfl, fun z hx => ?_⟩) ?_
  · have q0 := (hx.cell (p := ⟨k, 0, none⟩) hlt).trans c0; have q1 := (hx.cell (p := ⟨k, 1, none⟩) hlt).trans c1; have q2 := (hx.cell (p := ⟨k, 2, none⟩) hlt).trans c2; clear hx; go_simp; first | done | rfl
  refine wpAnyH_tk 5 (some 15) (.tuple #[.int .i64 0, .bool false]) rfl rfl (by kernel_rfl) (fun _ _ _ h => h) (by assumption) (Or.inl ⟨by kernel_rfl, fun z hx => ?_⟩) ?_
  · have q := hl z hx; clear hx; go_simp; first | done | rfl
  refine wpAnyH_tk 6 (some 9) (.tuple #[.int .i64 0, .bool false]) rfl rfl (by kernel_rfl) (fun _ _ _ h => h) (by assumption) (Or.inl ⟨by kernel_rfl, fun z hx => ?_⟩) ?_
  · clear hx; go_simp; first | done | rfl
  refine wpAnyH_tk 7 (some 16) (.int .i64 0) rfl rfl (by kernel_rfl) (fun _ _ _ h => h) (by assumption) (Or.inl ⟨by kernel_rfl, fun z hx => ?_⟩) ?_
  · clear hx; go_simp; first | done | rfl
  refine wpAnyH_tk 8 (some 17) (.bool false) rfl rfl (by kernel_rfl) (fun _ _ _ h => h) (by assumption) (Or.inl ⟨by kernel_rfl, fun z hx => ?_⟩) ?_
  · clear hx; go_simp; first | done | rfl
  refine wpAnyH_tk 9 (some 5) (.int .i64 0) rfl rfl (by kernel_rfl) (fun _ _ _ h => h) (by assumption) (Or.inl ⟨by kernel_rfl, fun z hx => ?_⟩) ?_
  · clear hx; go_simp; first | done | rfl
  refine wpAnyH_tk 10 (some 6) (.bool false) rfl rfl (by kernel_rfl) (fun _ _ _ h => h) (by assumption) (Or.inl ⟨by kernel_rfl, fun z hx => ?_⟩) ?_
  · clear hx; go_simp; first | done | rfl
  refine wpAnyH_done (by kernel_rfl) ?_ _
  go_simp
  go_upto_region 6 with fail
  clear hl
  have hT3 : Tbl D X M v ids w2.drew.drew := (hT.up (Below.refl _ _).drew).up (Below.refl _ _).drew
  obtain ⟨w5, hrun, hm5, hg5⟩ := hT3.map.store (f' := idV (ids ++ [c])) (Keyed.of_law law26) Tryd.underlying33 (by have := HNN.out; unfold maxLen; omega) (ok26 hc) (.int .i64 (ids.length : Int)) (idV_new hp) (fun x _ hx => idV_old hp x hx)
  unfold cnV at hrun
  obtain ⟨ao, cap, hvf⟩ := own_form hT.own
  rw [← HNN.out] at hrun hm5 hvf
  have HVF := Lib.hid hvf
  refine wp_region_T (fun x => Below w2.drew.heap.size w2.drew x) 10 (by kernel_rfl) ?_
  have hS1 : Below w2.drew.heap.size w2.drew w2.drew.drew := (Below.refl _ _).drew
  have d0' : w2.drew.cell? ⟨X, 0, none⟩ = some (.slice ao n cap) := by rw [← hvf]; exact d0
  clear hvf
  refine wpAnyT_tk 0 (some 20) (.pointer (some ⟨X, 0, none⟩)) rfl rfl (by kernel_rfl) (fun _ _ _ h => h) (by assumption) (Or.inl ⟨by kernel_rfl, fun z hx => ?_⟩) ?_
  · clear hx; go_simp; first | done | rfl
  refine wpAnyT_tk 1 (some 21) (.pointer (some ⟨X, 0, none⟩)) rfl rfl (by kernel_rfl) (fun _ _ _ h => h) (by assumption) (Or.inl ⟨by kernel_rfl, fun z hx => ?_⟩) ?_
  · clear hx; go_simp; first | done | rfl
  refine wpAnyT_tk 2 (some 22) (.pointer (some ⟨X, 1, none⟩)) rfl rfl (by kernel_rfl) (fun _ _ _ h => h) (by assumption) (Or.inl ⟨by kernel_rfl, fun z hx => ?_⟩) ?_
  · clear hx; go_simp; first | done | rfl
  refine wpAnyT_tk 3 (some 23) (.map (some M)) rfl rfl (by kernel_rfl) (fun _ _ _ h => h) (by assumption) (Or.inl ⟨by kernel_rfl, fun z hx => ?_⟩) ?_
  · have q := (hx.cell (p := ⟨X, 1, none⟩) hXl).trans d1; clear hx; go_simp; first | done | rfl
  refine wpAnyT_tk 4 (some 24) (.agg #[.int .i64 c.kind, .int .i64 c.int, .string ⟨c.text.toArray⟩]) rfl rfl (by kernel_rfl) (fun _ _ _ h => h) (by assumption) (Or.inl ⟨by kernel_rfl, fun z hx => ?_⟩) ?_
  · have q0 := (hx.cell (p := ⟨k, 0, none⟩) hlt).trans c0; have q1 := (hx.cell (p := ⟨k, 1, none⟩) hlt).trans c1; have q2 := (hx.cell (p := ⟨k, 2, none⟩) hlt).trans c2; clear hx; go_simp; first | done | rfl
  refine wpAnyT_tk 5 (some 25) (.pointer (some ⟨X, 0, none⟩)) rfl rfl (by kernel_rfl) (fun _ _ _ h => h) (by assumption) (Or.inl ⟨by kernel_rfl, fun z hx => ?_⟩) ?_
  · clear hx; go_simp; first | done | rfl
  refine wpAnyT_tk 6 (some 26) (.pointer (some ⟨X, 0, none⟩)) rfl rfl (by kernel_rfl) (fun _ _ _ h => h) (by assumption) (Or.inl ⟨by kernel_rfl, fun z hx => ?_⟩) ?_
  · clear hx; go_simp; first | done | rfl
  refine wpAnyT_tk 7 (some 27) (.pointer (some ⟨X, 0, none⟩)) rfl rfl (by kernel_rfl) (fun _ _ _ h => h) (by assumption) (Or.inl ⟨by kernel_rfl, fun z hx => ?_⟩) ?_
  · clear hx; go_simp; first | done | rfl
  refine wpAnyT_tk 8 (some 28) (.slice ao n cap) rfl rfl (by kernel_rfl) (fun _ _ _ h => h) (by assumption) (Or.inl ⟨by kernel_rfl, fun z hx => ?_⟩) ?_
  · have q := (hx.cell (p := ⟨X, 0, none⟩) hXl).trans d0'; clear hx; go_simp; first | done | rfl
  refine wpAnyT_tk 9 (some 29) (.int .i64 (n : Int)) rfl rfl (by kernel_rfl) (fun _ _ _ h => h) (by assumption) (Or.inl ⟨by kernel_rfl, fun z hx => ?_⟩) ?_
  · clear hx; go_simp; first | done | rfl
  refine wpAnyT_one 10 rfl (by kernel_rfl) (fun K' hK' => ?_)
  rw [if_pos (by kernel_rfl)]
  go_simp
  refine hK' _ _ (fun h9 => absurd rfl h9) ?_
  clear hK'
  refine wpAnyT_done (by kernel_rfl) ?_ _
  go_simp
  have hXM := hT.xm
  have x5 : w5.heap[X]? = some (.cells #[v, .map (some M)] 37) := (hg5.block X (by simpa using hXl) (fun e => hXM (Option.some.inj e))).trans hT3.blk
  have o5 : w5.ownsRow D 26 3 v ids.length (flatC ids) := hT3.own.kept hg5 (.inr hT.om)
  have k5 : w5.heap[k]? = some (.cells #[.int .i64 c.kind, .int .i64 c.int, .string ⟨c.text.toArray⟩] 26) := (hg5.block k (by simpa using hlt) (fun e => HKM.out (Option.some.inj e))).trans HKB.out
  have s5 : w2.heap.size ≤ w5.heap.size := by have := hg5.size; simpa using this
  have HB5 : Hid (Ch X M v w w5) := Lib.hid (((Ch.of_below (HB2.out.trans (hS0.mono HB2.out.size))).grown (w1 := w2.drew) (w' := w5) (row := some M) ⟨hg5.os, hg5.tape, hg5.output, hg5.size, hg5.block⟩ (fun i e => .inr (.inl (Option.some.inj e).symm))))
  obtain ⟨p0, p1, pf0, pf1⟩ := two_cells x5
  obtain ⟨q0, q1, q2, _, _, _⟩ := three_cells k5
  rw [HVF.out] at p0
  have hklt : k < w5.heap.size := heap_lt k5
  have hXlt : X < w5.heap.size := heap_lt x5
  clear hrun hg5 d0 d0' hT3 hlt hXl c0 c1 c2 d1 hS1
  go_upto_region 7 with fail
  refine wp_region_T (fun x => x.heap[X]? = w5.heap[X]? ∧ x.heap[k]? = w5.heap[k]?) 10 (by kernel_rfl) ?_
  have hS2 : w5.drew.heap[X]? = w5.heap[X]? ∧ w5.drew.heap[k]? = w5.heap[k]? := ⟨rfl, rfl⟩
  refine wpAnyT_tk 0 (some 30) (.pointer (some ⟨X, 0, none⟩)) rfl rfl (by kernel_rfl) (fun _ _ _ h => h) (by assumption) (Or.inl ⟨by kernel_rfl, fun z hx => ?_⟩) ?_
  · clear hx; go_simp; first | done | rfl
  refine wpAnyT_tk 1 (some 31) (.pointer (some ⟨X, 0, none⟩)) rfl rfl (by kernel_rfl) (fun _ _ _ h => h) (by assumption) (Or.inl ⟨by kernel_rfl, fun z hx => ?_⟩) ?_
  · clear hx; go_simp; first | done | rfl
  refine wpAnyT_tk 2 (some 32) (.pointer (some ⟨X, 0, none⟩)) rfl rfl (by kernel_rfl) (fun _ _ _ h => h) (by assumption) (Or.inl ⟨by kernel_rfl, fun z hx => ?_⟩) ?_
  · clear hx; go_simp; first | done | rfl
  refine wpAnyT_tk 3 (some 33) (.pointer (some ⟨X, 0, none⟩)) rfl rfl (by kernel_rfl) (fun _ _ _ h => h) (by assumption) (Or.inl ⟨by kernel_rfl, fun z hx => ?_⟩) ?_
  · clear hx; go_simp; first | done | rfl
  refine wpAnyT_tk 4 (some 34) (.slice ao n cap) rfl rfl (by kernel_rfl) (fun _ _ _ h => h) (by assumption) (Or.inl ⟨by kernel_rfl, fun z hx => ?_⟩) ?_
  · have q := hx.1; have q0 : z.cell? ⟨X, 0, none⟩ = some (.slice ao n cap) := by simp only [World.cell?, q]; exact p0
    clear hx q; go_simp; first | done | rfl
  refine wpAnyT_tk 5 (some 35) (.agg #[.int .i64 c.kind, .int .i64 c.int, .string ⟨c.text.toArray⟩]) rfl rfl (by kernel_rfl) (fun _ _ _ h => h) (by assumption) (Or.inl ⟨by kernel_rfl, fun z hx => ?_⟩) ?_
  · have q9 := hx.2; have q0' : z.cell? ⟨k, 0, none⟩ = some (.int .i64 c.kind) := by (simp only [World.cell?, q9]; exact q0)
    have q1' : z.cell? ⟨k, 1, none⟩ = some (.int .i64 c.int) := by (simp only [World.cell?, q9]; exact q1)
    have q2' : z.cell? ⟨k, 2, none⟩ = some (.string ⟨c.text.toArray⟩) := by (simp only [World.cell?, q9]; exact q2)
    clear hx q9; go_simp; first | done | rfl
  refine wpAnyT_one 6 rfl (by kernel_rfl) (fun K' hK' => ?_)
  rw [if_pos (by kernel_rfl)]
  go_simp
  obtain ⟨w6, hw6⟩ : ∃ w6, w6 = w5.drew.alloc (Obj.cells #[.int .i64 c.kind, .int .i64 c.int, .string ⟨c.text.toArray⟩] 26) := ⟨_, rfl⟩
  change K' _ (w5.drew.alloc (Obj.cells #[.int .i64 c.kind, .int .i64 c.int, .string ⟨c.text.toArray⟩] 26))
  rw [← hw6]
  have hS3 : w6.heap[X]? = w5.heap[X]? ∧ w6.heap[k]? = w5.heap[k]? := by rw [hw6]; exact ⟨Lib.alloc_old _ _ X hXlt, Lib.alloc_old _ _ k hklt⟩
  have o6 : w6.ownsRow D 26 3 v ids.length (flatC ids) := by rw [hw6]; exact o5.drew.alloc _
  have m6 : w6.heap[M]? = w5.heap[M]? := by rw [hw6]; exact Lib.alloc_old _ _ M hm5.lt
  have n6 : ∀ j u, (cnL c)[j]? = some u → w6.cell? ((⟨w5.heap.size, 0, none⟩ : Addr).add j) = some u := by rw [hw6]; exact news3 w5.drew _ _ _ _
  have s6 : w6.heap.size = w5.heap.size + 1 := by rw [hw6]; simp
  have HB6 : Hid (Ch X M v w w6) := Lib.hid (by rw [hw6]; exact HB5.out.grown (row := none) ⟨rfl, rfl, rfl, by simp, fun i hi _ => Lib.alloc_old w5.drew _ i hi⟩ (fun i e => by simp at e))
  clear hw6
  refine hK' _ _ (fun _ => hS3) ?_
  clear hK'
  refine wpAnyT_one 7 rfl (by kernel_rfl) (fun K' hK' => ?_)
  rw [if_pos (by kernel_rfl)]
  refine wp_append_at _ _ 22 rfl D 26 i0 (.agg #[.int .i64 0, .int .i64 0, .string nilB]) 3 32 Tryd.underlying22 hi hz0 hz1 hz2 rfl (by decide) v ids.length (flatC ids) (by rw [HVF.out]; rfl) o6 ⟨w5.heap.size, 0, none⟩ 1 1 (cnL c) rfl rfl n6 (cnL_one c) (by have := HNN.out; unfold maxLen; omega) (by have := HNN.out; omega) (by have := HB2.out.size; omega) ?_
  intro v' w8 hown8 hgrow8 hat
  obtain ⟨ao', cap', hvf'⟩ := own_form hown8
  obtain ⟨m, hm⟩ : ∃ m, m = ids.length + 1 := ⟨_, rfl⟩
  rw [← hm] at hvf'
  have HM1 : Hid (m = n + 1) := Lib.hid (by rw [hm, HNN.out])
  clear hm
  have hX8 : w8.heap[X]? = w5.heap[X]? := (hgrow8.block X (by omega) (fun e => HOX.out e.symm)).trans hS3.1
  have hk8 : w8.heap[k]? = w5.heap[k]? := (hgrow8.block k (by omega) (fun e => by have := HVK.out k e.symm; have := HK.out; omega)).trans hS3.2
  have hM8 : w8.heap[M]? = w5.heap[M]? := (hgrow8.block M (by have := hm5.lt; omega) (fun e => HOM.out e.symm)).trans m6
  have hZ := And.intro hX8 hk8
  refine hK' _ _ (fun _ => hZ) ?_
  clear hK'
  have HO8 : Hid (w8.ownsRow D 26 3 v' (ids ++ [c]).length (flatC (ids ++ [c]))) := Lib.hid (by rw [List.length_append, flatC_snoc]; exact hown8)
  have hat' : Hid (v'.ownBlock = v.ownBlock ∨ v'.ownBlock = some w6.heap.size) := Lib.hid hat
  have HB8 : Hid (Ch X M v w w8) := Lib.hid (HB6.out.grown hgrow8 (fun i e => .inr (.inr (.inl e))))
  have s8 : w6.heap.size ≤ w8.heap.size := hgrow8.size
  have HM8 : Hid (MapAt 26 w8 M (ids ++ [c]).length (idV (ids ++ [c]))) := Lib.hid (by rw [List.length_append, List.length_singleton, ← HNN.out]; exact hm5.same hM8)
  have HX8 : Hid (w8.heap[X]? = some (.cells #[v, .map (some M)] 37)) := Lib.hid (hX8.trans x5)
  obtain ⟨r0, r1, rf0, rf1⟩ := two_cells HX8.out
  have HS6 := Lib.hid s6
  have HS5 := Lib.hid s5
  have HS8 := Lib.hid s8
  subst hvf'
  clear hat hown8 hgrow8 hX8 hk8 hM8 hS3 hS2 o6 m6 n6 s6 s5 s8 o5 p0 p1 pf0 pf1 q0 q1 q2 x5 k5 hm5
  refine wpAnyT_one 8 rfl (by kernel_rfl) (fun K' hK' => ?_)
  rw [if_pos (by kernel_rfl)]
  go_simp
  refine hK' _ _ (fun _ => hZ) ?_
  clear hK'
  refine wpAnyT_one 9 rfl (by kernel_rfl) (fun K' hK' => ?_)
  rw [if_pos (by kernel_rfl)]
  go_simp
  refine hK' _ _ (fun _ => hZ) ?_
  clear hK'
  refine wpAnyT_one 10 rfl (by kernel_rfl) (fun K' hK' => ?_)
  rw [if_pos (by kernel_rfl)]
  go_simp
  refine hK' _ _ (fun h9 => absurd rfl h9) ?_
  clear hK'
  refine wpAnyT_done (by kernel_rfl) ?_ _
  go_simp
  obtain ⟨w9, hw9⟩ : ∃ w9, w9 = w8.setCell ⟨X, 0, none⟩ (.slice ao' m cap') := ⟨_, rfl⟩
  rw [← hw9]
  have hX9 : w9.heap[X]? = some (.cells #[.slice ao' m cap', .map (some M)] 37) := by rw [hw9]; exact Joins.block_setCell (cs := #[v, .map (some M)]) HX8.out _
  have HOX9 : Hid ((Value.slice ao' m cap').ownBlock ≠ some X) := Lib.hid (by
    rcases hat'.out with e | e
    · rw [e]; exact HOX.out
    · rw [e]; intro e2; have := Option.some.inj e2; have := HS6.out; omega)
  have HOM9 : Hid ((Value.slice ao' m cap').ownBlock ≠ some M) := Lib.hid (by
    rcases hat'.out with e | e
    · rw [e]; exact HOM.out
    · rw [e]; intro e2; have := Option.some.inj e2; have := HS6.out; have := hT.map.lt; have := HS5.out; omega)
  have HT9 : Hid (Tbl D X M (.slice ao' m cap') (ids ++ [c]) w9) := Lib.hid (by
    refine ⟨hX9, ?_, ?_, HOX9.out, HOM9.out, hT.xm, hT.lx, hT.lm⟩
    · rw [hw9]
      exact HO8.out.kept (row := some X) ⟨rfl, rfl, rfl, by simp [World.setCell], fun k _ hk => Below.heap_setCell _ _ _ _ (fun e => hk (by simp [e]))⟩ (Or.inr HOX9.out)
    · rw [hw9]
      exact HM8.out.same (Below.heap_setCell _ _ _ _ hT.xm.symm))
  have HC9 : Hid (Ch X M v w w9) := Lib.hid (by rw [hw9]; exact HB8.out.set 0 _)
  have HK9 : Hid ((Value.slice ao' m cap').ownBlock = v.ownBlock ∨ ∃ k, (Value.slice ao' m cap').ownBlock = some k ∧ w.heap.size ≤ k) := Lib.hid (by
    rcases hat'.out with e | e
    · exact .inl e
    · exact .inr ⟨_, e, by have := HS6.out; have := HS5.out; have := HB2.out.size; omega⟩)
  obtain ⟨t0, t1, _, _⟩ := two_cells hX9
  clear hw9 r0 r1 rf0 rf1 hX9
  have hw1 : IntKind.i64.wrap ((m : Int) - 1) = (n : Int) := by have := HM1.out; rw [IntKind.wrap_i64]; omega
  go_wp2
  all_goals go_ret
  exact ⟨_, rfl, HT9.out, HC9.out, HK9.out⟩
end Go.Proofs.YtijmogehmcjopaaDoor
