/-
  A table of constants in memory; the walks of Find, Len, At, Const. Conditions: the table as it stands; what each states.
-/
import Derived.Test.YtijmogehmcjopaaDoorK1
namespace Go.Proofs.YtijmogehmcjopaaDoor
open Go.RowKit Go.Maps Ct

/-- Where a constant first stands. -/
def place : List Cn → Cn → Option Nat
  | [], _ => none
  | x :: r, c => if x = c then some 0 else (place r c).map (· + 1)
theorem place_some : ∀ {l : List Cn} {c : Cn} {i : Nat}, place l c = some i → ∃ h : i < l.length, l[i] = c
  | x :: r, c, i, h => by
    unfold place at h
    split at h
    · rename_i e; simp at h; subst h; exact ⟨by simp, e⟩
    · cases hp : place r c with
      | none => rw [hp] at h; simp at h
      | some j =>
        rw [hp] at h; simp at h; subst h
        obtain ⟨h1, h2⟩ := place_some hp
        exact ⟨by simp; omega, by simpa using h2⟩
theorem place_none : ∀ {l : List Cn} {c : Cn}, place l c = none → c ∉ l
  | [], c, _ => by simp
  | x :: r, c, h => by
    unfold place at h
    split at h
    · cases h
    · rename_i e
      cases hp : place r c with
      | none => intro hm; rcases List.mem_cons.1 hm with rfl | hm; exact e rfl; exact place_none hp hm
      | some j => rw [hp] at h; simp at h
theorem place_snoc : ∀ {l : List Cn} {c : Cn} (x : Cn), place l c = none → place (l ++ [c]) x = if x = c then some l.length else place l x
  | [], c, x, _ => by simp only [List.nil_append, place, List.length_nil, Option.map_none]; by_cases h : c = x <;> simp [h]; intro e; exact absurd e.symm h
  | y :: r, c, x, h => by
    unfold place at h
    split at h
    · cases h
    · rename_i e
      have hp : place r c = none := by cases hp : place r c with
        | none => rfl
        | some j => rw [hp] at h; simp at h
      simp only [List.cons_append, place]
      rw [place_snoc x hp]
      by_cases h1 : y = x
      · subst h1; rw [if_pos rfl, if_neg e, if_pos rfl]
      · rw [if_neg h1, if_neg h1]
        by_cases h2 : x = c
        · rw [if_pos h2, if_pos h2]; rfl
        · rw [if_neg h2, if_neg h2]
/-- A value read as a constant. -/
def unC : Value → Option Cn
  | .agg ⟨[.int .i64 k, .int .i64 i, .string t]⟩ => some ⟨k, i, L t⟩
  | _ => none
theorem unC_cn (c : Cn) : unC (cnV c) = some c := by simp [unC, cnV, L_mk]
theorem unC_some {v : Value} {c : Cn} (h : unC v = some c) : v = cnV c := by
  unfold unC at h
  split at h
  · simp only [Option.some.injEq] at h
    subst h
    rfl
  · cases h
def idV (ids : List Cn) (v : Value) : Option Value := (unC v).bind fun c => (place ids c).map fun (i : Nat) => .int .i64 (i : Int)
theorem idV_cn (ids : List Cn) (c : Cn) : idV ids (cnV c) = (place ids c).map fun (i : Nat) => .int .i64 (i : Int) := by rw [idV, unC_cn]; rfl
theorem idV_new {ids : List Cn} {c : Cn} (h : place ids c = none) : idV (ids ++ [c]) (cnV c) = some (.int .i64 (ids.length : Int)) := by rw [idV_cn, place_snoc c h, if_pos rfl]; rfl
theorem idV_old {ids : List Cn} {c : Cn} (h : place ids c = none) (v : Value) (hv : v ≠ cnV c) : idV (ids ++ [c]) v = idV ids v := by
  unfold idV
  cases hu : unC v with
  | none => rfl
  | some x =>
    have hx := unC_some hu
    simp only [Option.bind_some]
    rw [place_snoc x h, if_neg (fun e => hv (by rw [hx, e]))]
/-- What Find tells. -/
def findI (ids : List Cn) (c : Cn) : Int := match place ids c with | some i => (i : Int) | none => -1

def cnL (c : Cn) : List Value := [.int .i64 c.kind, .int .i64 c.int, .string ⟨c.text.toArray⟩]
def flatC (xs : List Cn) : List Value := xs.flatMap cnL
theorem flatC_len (xs : List Cn) : (flatC xs).length = xs.length * 3 := by
  induction xs with
  | nil => rfl
  | cons t ts ih => simp only [flatC, List.flatMap_cons, List.length_append, List.length_cons] at ih ⊢; rw [ih]; simp only [cnL, List.length_cons, List.length_nil]; omega
theorem flatC_snoc (xs : List Cn) (x : Cn) : flatC (xs ++ [x]) = flatC xs ++ cnL x := by simp [flatC]
theorem cnL_one (x : Cn) : ∀ u ∈ cnL x, u.oneCell' = true := by intro u hu; simp [cnL] at hu; rcases hu with rfl | rfl | rfl <;> rfl
theorem flatC_at (xs : List Cn) : ∀ (i : Nat) (hi : i < xs.length) (j : Nat), j < 3 → (flatC xs)[i * 3 + j]? = (cnL xs[i])[j]? := by
  induction xs with
  | nil => intro i hi; simp at hi
  | cons x xs ih =>
    intro i hi j hj
    simp only [flatC, List.flatMap_cons]
    cases i with
    | zero =>
      rw [Nat.zero_mul, Nat.zero_add, List.getElem?_append_left (by simp [cnL]; omega)]
      rfl
    | succ i =>
      rw [List.getElem?_append_right (by simp [cnL]; omega), show (i + 1) * 3 + j - (cnL x).length = i * 3 + j by simp [cnL]; omega]
      exact ih i (by simpa using hi) j hj
theorem cn_cells {w : World} {base cap g n : Nat} {xs : List Cn} (h : w.ownsRow base 26 3 (.slice (some ⟨g, 0, none⟩) n cap) xs.length (flatC xs)) {i : Nat} (hi : i < xs.length) :
    w.cell? ⟨g, i * 3, none⟩ = some (.int .i64 xs[i].kind) ∧ w.cell? ⟨g, i * 3 + 1, none⟩ = some (.int .i64 xs[i].int) ∧ w.cell? ⟨g, i * 3 + 2, none⟩ = some (.string ⟨xs[i].text.toArray⟩) := by
  have hn : n = xs.length := by
    obtain ⟨g', cap', h5⟩ := Joins.ownsRow_form h (by omega)
    injection h5
  subst hn
  have hc : ∀ j (hj : j < 3), w.cell? ⟨g, i * 3 + j, none⟩ = (cnL xs[i])[j]? := fun j hj => by
    rw [World.ownsRow.cellAt h (i * 3 + j) (by omega), flatC_at xs i hi j hj]
  exact ⟨hc 0 (by omega), hc 1 (by omega), hc 2 (by omega)⟩

/-- A table: its block X, its map M, its list v. -/
structure Tbl (D X M : Nat) (v : Value) (ids : List Cn) (w : World) : Prop where
  blk : w.heap[X]? = some (.cells #[v, .map (some M)] 37)
  own : w.ownsRow D 26 3 v ids.length (flatC ids)
  map : MapAt 26 w M ids.length (idV ids)
  ox : v.ownBlock ≠ some X
  om : v.ownBlock ≠ some M
  xm : X ≠ M
  lx : D ≤ X
  lm : D ≤ M
theorem Tbl.up {D X M : Nat} {v : Value} {ids : List Cn} {w w' : World} (h : Tbl D X M v ids w) (k : Below w.heap.size w w') : Tbl D X M v ids w' :=
  ⟨(k.block X (heap_lt h.blk)).trans h.blk, h.own.kept (Below.grow k) (by cases v.ownBlock <;> simp), h.map.same (k.block M h.map.lt), h.ox, h.om, h.xm, h.lx, h.lm⟩
theorem two_cells {w : World} {b : Nat} {x y : Value} {t : TypeId} (h : w.heap[b]? = some (.cells #[x, y] t)) :
    w.cell? ⟨b, 0, none⟩ = some x ∧ w.cell? ⟨b, 1, none⟩ = some y ∧ w.frozen? ⟨b, 0, none⟩ = false ∧ w.frozen? ⟨b, 1, none⟩ = false := by
  refine ⟨?_, ?_, ?_, ?_⟩ <;> simp [World.cell?, World.frozen?, h]
theorem own_form {w : World} {base e n size : Nat} {v : Value} {xs : List Value} (h : w.ownsRow base e size v n xs) : ∃ ao cap, v = .slice ao n cap := by
  rcases h.2 with ⟨rfl, rfl⟩ | ⟨g, cap, cur, rfl, _⟩
  · exact ⟨none, 0, rfl⟩
  · exact ⟨_, _, rfl⟩
theorem look_id {D X M : Nat} {v : Value} {ids : List Cn} {w : World} (h : Tbl D X M v ids w) {c : Cn} (hc : InC c) {x : World} (hx : Below w.heap.size w x) :
    (Instr.lookup 33 (.map (some M)) (cnV c) true).run Tryd.prog x = .ok (.tuple #[((place ids c).map fun (i : Nat) => Value.int .i64 (i : Int)).getD (.int .i64 0), .bool (place ids c).isSome]) x := by
  have h1 := (h.up hx).map.look (Keyed.of_law law26) Tryd.underlying33 (z := .int .i64 0) (by exact Tryd.zeroValue3 x) (ok26 hc) true
  rw [idV_cn, Option.isSome_map] at h1
  exact h1

set_option maxRecDepth 100000 in
set_option maxHeartbeats 3200000 in
theorem find_any {D X M : Nat} {v : Value} {ids : List Cn} {w : World} (h : Tbl D X M v ids w) (c : Cn) (hc : InC c) :
    Calls Tryd.prog 9 #[.pointer (some ⟨X, 0, none⟩), cnV c] w fun e w' => e = .returned (.int .i64 (findI ids c)) ∧ Below w.heap.size w w' := by
  obtain ⟨w2, hw2⟩ : ∃ w2, w2 = w.alloc (cnO c) := ⟨_, rfl⟩
  obtain ⟨c0, c1, c2, _, _, _⟩ := three_cells (w := w2) (b := w.heap.size) (x := .int .i64 c.kind) (y := .int .i64 c.int) (z := .string ⟨c.text.toArray⟩) (t := 26) (by rw [hw2]; exact heap_alloc_new w _)
  have hb2 : Below w.heap.size w w2 := by rw [hw2]; exact up_alloc _ _
  have hlt : w.heap.size < w2.heap.size := by rw [hw2]; simp
  have hT := h.up hb2
  have hXl : X < w2.heap.size := heap_lt hT.blk
  obtain ⟨d0, d1, _, _⟩ := two_cells hT.blk
  obtain ⟨k, hk⟩ : ∃ k, k = w.heap.size := ⟨_, rfl⟩
  have HK := Lib.hid hk
  have hlk := fun x hx => look_id (x := x) hT hc hx
  obtain ⟨F, hF⟩ : ∃ F, F = findI ids c := ⟨_, rfl⟩
  rw [← hF]
  have HF := Lib.hid hF
  clear hF
  go_enter Tryd.func9, Tryd.ntmps9
  unfold cnV
  go_upto_region 1 with fail
  change Code.wp Tryd.prog _ _ _ (w.alloc (cnO c))
  rw [← hw2, ← hk]
  have HB2 := Lib.hid hb2
  rw [← hk] at hlt c0 c1 c2
  clear hw2 hk h hb2
  go_upto_region 3 with fail
  unfold cnV at hlk
  cases hp : place ids c with
  | some i =>
    have hl : ∀ x, Below w2.heap.size w2 x → (Instr.lookup 33 (.map (some M)) (.agg #[.int .i64 c.kind, .int .i64 c.int, .string ⟨c.text.toArray⟩]) true).run Tryd.prog x = .ok (.tuple #[.int .i64 (i : Int), .bool true]) x := fun x hx => by rw [hlk x hx, hp]; rfl
    have HV : Hid (F = (i : Int)) := Lib.hid (by rw [HF.out, findI, hp])
    clear hlk hp HF
    refine wp_region_H (fun x => Below w2.heap.size w2 x) (by kernel_rfl) ?_
    have hS0 : Below w2.heap.size w2 w2.drew := (Below.refl _ _).drew
    refine wpAnyH_tk 0 (some 10) (.pointer (some ⟨X, 0, none⟩)) rfl rfl (by kernel_rfl) (fun _ _ _ h => h) (by assumption) (Or.inl ⟨by kernel_rfl, fun z hx => ?_⟩) ?_
    · clear hx; go_simp; first | done | rfl
    refine wpAnyH_tk 1 (some 11) (.pointer (some ⟨X, 0, none⟩)) rfl rfl (by kernel_rfl) (fun _ _ _ h => h) (by assumption) (Or.inl ⟨by kernel_rfl, fun z hx => ?_⟩) ?_
    · clear hx; go_simp; first | done | rfl
    refine wpAnyH_tk 2 (some 12) (.pointer (some ⟨X, 1, none⟩)) rfl rfl (by kernel_rfl) (fun _ _ _ h => h) (by assumption) (Or.inl ⟨by kernel_rfl, fun z hx => ?_⟩) ?_
    · clear hx; go_simp; first | done | rfl
    refine wpAnyH_tk 3 (some 13) (.map (some M)) rfl rfl (by kernel_rfl) (fun _ _ _ h => h) (by assumption) (Or.inl ⟨by kernel_rfl, fun z hx => ?_⟩) ?_
    · have q := (hx.cell (p := ⟨X, 1, none⟩) hXl).trans d1; clear hx; go_simp; first | done | rfl
    refine wpAnyH_tk 4 (some 14) (.agg #[.int .i64 c.kind, .int .i64 c.int, .string ⟨c.text.toArray⟩]) rfl rfl (by kernel_rfl) (fun _ _ _ h => h) (by assumption) (Or.inl ⟨by kernel_rfl, fun z hx => ?_⟩) ?_
    · have q0 := (hx.cell (p := ⟨k, 0, none⟩) hlt).trans c0; have q1 := (hx.cell (p := ⟨k, 1, none⟩) hlt).trans c1; have q2 := (hx.cell (p := ⟨k, 2, none⟩) hlt).trans c2; clear hx; go_simp; first | done | rfl
    refine wpAnyH_tk 5 (some 15) (.tuple #[.int .i64 (i : Int), .bool true]) rfl rfl (by kernel_rfl) (fun _ _ _ h => h) (by assumption) (Or.inl ⟨by kernel_rfl, fun z hx => ?_⟩) ?_
    · have q := hl z hx; clear hx; go_simp; first | done | rfl
    refine wpAnyH_tk 6 (some 9) (.tuple #[.int .i64 (i : Int), .bool true]) rfl rfl (by kernel_rfl) (fun _ _ _ h => h) (by assumption) (Or.inl ⟨by kernel_rfl, fun z hx => ?_⟩) ?_
    · clear hx; go_simp; first | done | rfl
    refine wpAnyH_tk 7 (some 16) (.int .i64 (i : Int)) rfl rfl (by kernel_rfl) (fun _ _ _ h => h) (by assumption) (Or.inl ⟨by kernel_rfl, fun z hx => ?_⟩) ?_
    · clear hx; go_simp; first | done | rfl
    refine wpAnyH_tk 8 (some 17) (.bool true) rfl rfl (by kernel_rfl) (fun _ _ _ h => h) (by assumption) (Or.inl ⟨by kernel_rfl, fun z hx => ?_⟩) ?_
    · clear hx; go_simp; first | done | rfl
    refine wpAnyH_tk 9 (some 5) (.int .i64 (i : Int)) rfl rfl (by kernel_rfl) (fun _ _ _ h => h) (by assumption) (Or.inl ⟨by kernel_rfl, fun z hx => ?_⟩) ?_
    · clear hx; go_simp; first | done | rfl
    refine wpAnyH_tk 10 (some 6) (.bool true) rfl rfl (by kernel_rfl) (fun _ _ _ h => h) (by assumption) (Or.inl ⟨by kernel_rfl, fun z hx => ?_⟩) ?_
    · clear hx; go_simp; first | done | rfl
    refine wpAnyH_done (by kernel_rfl) ?_ _
    go_simp
    go_wp2
    all_goals go_ret
    exact ⟨by first | (rw [HV.out]; done) | (rw [HV.out]; rfl), HB2.out.trans (hS0.mono HB2.out.size)⟩
  | none =>
    have hl : ∀ x, Below w2.heap.size w2 x → (Instr.lookup 33 (.map (some M)) (.agg #[.int .i64 c.kind, .int .i64 c.int, .string ⟨c.text.toArray⟩]) true).run Tryd.prog x = .ok (.tuple #[.int .i64 0, .bool false]) x := fun x hx => by rw [hlk x hx, hp]; rfl
    have HV : Hid (F = -1) := Lib.hid (by rw [HF.out, findI, hp])
    clear hlk hp HF
    refine wp_region_H (fun x => Below w2.heap.size w2 x) (by kernel_rfl) ?_
    have hS0 : Below w2.heap.size w2 w2.drew := (Below.refl _ _).drew
    refine wpAnyH_tk 0 (some 10) (.pointer (some ⟨X, 0, none⟩)) rfl rfl (by kernel_rfl) (fun _ _ _ h => h) (by assumption) (Or.inl ⟨by kernel_rfl, fun z hx => ?_⟩) ?_
    · clear hx; go_simp; first | done | rfl
    refine wpAnyH_tk 1 (some 11) (.pointer (some ⟨X, 0, none⟩)) rfl rfl (by kernel_rfl) (fun _ _ _ h => h) (by assumption) (Or.inl ⟨by kernel_rfl, fun z hx => ?_⟩) ?_
    · clear hx; go_simp; first | done | rfl
    refine wpAnyH_tk 2 (some 12) (.pointer (some ⟨X, 1, none⟩)) rfl rfl (by kernel_rfl) (fun _ _ _ h => h) (by assumption) (Or.inl ⟨by kernel_rfl, fun z hx => ?_⟩) ?_
    · clear hx; go_simp; first | done | rfl
    refine wpAnyH_tk 3 (some 13) (.map (some M)) rfl rfl (by kernel_rfl) (fun _ _ _ h => h) (by assumption) (Or.inl ⟨by kernel_rfl, fun z hx => ?_⟩) ?_
    · have q := (hx.cell (p := ⟨X, 1, none⟩) hXl).trans d1; clear hx; go_simp; first | done | rfl
    refine wpAnyH_tk 4 (some 14) (.agg #[.int .i64 c.kind, .int .i64 c.int, .string ⟨c.text.toArray⟩]) rfl rfl (by kernel_rfl) (fun _ _ _ h => h) (by assumption) (Or.inl ⟨by kernel_rfl, fun z hx => ?_⟩) ?_
    · have q0 := (hx.cell (p := ⟨k, 0, none⟩) hlt).trans c0; have q1 := (hx.cell (p := ⟨k, 1, none⟩) hlt).trans c1; have q2 := (hx.cell (p := ⟨k, 2, none⟩) hlt).trans c2; clear hx; go_simp; first | done | rfl
    refine wpAnyH_tk 5 (some 15) (.tuple #[.int .i64 0, .bool false]) rfl rfl (by kernel_rfl) (fun _ _ _ h => h) (by assumption) (Or.inl ⟨by kernel_rfl, fun z hx => ?_⟩) ?_
    · have q := hl z hx; clear hx; go_simp; first | done | rfl
    refine wpAnyH_tk 6 (some 9) (.tuple #[.int .i64 0, .bool false]) rfl rfl (by kernel_rfl) (fun _ _ _ h => h) (by assumption) (Or.inl ⟨by kernel_rfl, fun z hx => ?_⟩) ?_
    · clear hx; go_simp; first | done | rfl
    refine wpAnyH_tk 7 (some 16) (.int .i64 0) rfl rfl (by kernel_rfl) (fun _ _ _ h => h) (by assumption) (Or.inl ⟨by kernel_rfl, fun z hx => ?_⟩) ?_
    · clear hx; go_simp; first | done | rfl
    refine wpAnyH_tk 8 (some 17) (.bool false) rfl rfl (by kernel_rfl) (fun _ _ _ h => h) (by assumption) (Or.inl ⟨by kernel_rfl, fun z hx => ?_⟩) ?_
    · clear hx; go_simp; first | done | rfl
    refine wpAnyH_tk 9 (some 5) (.int .i64 0) rfl rfl (by kernel_rfl) (fun _ _ _ h => h) (by assumption) (Or.inl ⟨by kernel_rfl, fun z hx => ?_⟩) ?_
    · clear hx; go_simp; first | done | rfl
    refine wpAnyH_tk 10 (some 6) (.bool false) rfl rfl (by kernel_rfl) (fun _ _ _ h => h) (by assumption) (Or.inl ⟨by kernel_rfl, fun z hx => ?_⟩) ?_
    · clear hx; go_simp; first | done | rfl
    refine wpAnyH_done (by kernel_rfl) ?_ _
    go_simp
    go_wp2
    all_goals go_ret
    exact ⟨by rw [HV.out]; rfl, HB2.out.trans (hS0.mono HB2.out.size)⟩

set_option maxRecDepth 100000 in
set_option maxHeartbeats 3200000 in
theorem len_any {D X M : Nat} {v : Value} {ids : List Cn} {w : World} (h : Tbl D X M v ids w) :
    Calls Tryd.prog 12 #[.pointer (some ⟨X, 0, none⟩)] w fun e w' => e = .returned (.int .i64 (ids.length : Int)) ∧ w' = w := by
  obtain ⟨d0, d1, _, _⟩ := two_cells h.blk
  obtain ⟨ao, cap, rfl⟩ := own_form h.own
  clear h
  go_enter Tryd.func12, Tryd.ntmps12
  go_wp2
  all_goals go_ret
  exact ⟨rfl, rfl⟩

set_option maxRecDepth 100000 in
set_option maxHeartbeats 3200000 in
theorem at_any {D X M : Nat} {v : Value} {ids : List Cn} {w : World} (h : Tbl D X M v ids w) (i : Nat) (hi : i < ids.length) :
    Calls Tryd.prog 27 #[.pointer (some ⟨X, 0, none⟩), .int .i64 (i : Int)] w fun e w' => e = .returned (.tuple #[cnV ids[i], .bool true]) ∧ Below w.heap.size w w' := by
  obtain ⟨c, hc⟩ : ∃ c, c = ids[i] := ⟨_, rfl⟩
  rw [← hc]
  obtain ⟨w2, hw2⟩ : ∃ w2, w2 = (w.alloc (.cells #[.int .i64 0, .int .i64 0, .string nilB] 26)).alloc (.cells #[.int .i64 0, .int .i64 0, .string nilB] 26) := ⟨_, rfl⟩
  have hb2 : Below w.heap.size w w2 := by rw [hw2]; exact (up_alloc _ _).alloc (by simp) _
  have HA : Hid (w2.heap[w.heap.size]? = some (.cells #[.int .i64 0, .int .i64 0, .string nilB] 26)) := Lib.hid (by rw [hw2, Lib.alloc_old _ _ _ (by simp)]; exact heap_alloc_new w _)
  have hT := h.up hb2
  obtain ⟨d0, d1, _, _⟩ := two_cells hT.blk
  obtain ⟨g, cap, rfl⟩ := Joins.ownsRow_form hT.own (by omega)
  obtain ⟨e0, e1, e2⟩ := cn_cells hT.own hi
  rw [← hc] at e0 e1 e2
  have HB2 := Lib.hid hb2
  obtain ⟨n, hn⟩ : ∃ n, n = ids.length := ⟨_, rfl⟩
  rw [← hn] at d0
  have hI : (i : Int) < (n : Int) := by omega
  have hI0 : (0 : Int) ≤ (i : Int) := by omega
  obtain ⟨y0, y1, y2, g0, g1, g2⟩ := three_cells HA.out
  clear h hT hb2 hc hn hi
  go_enter Tryd.func27, Tryd.ntmps27
  go_upto_region 2 with fail
  change Code.wp Tryd.prog _ _ _ ((w.alloc (.cells #[.int .i64 0, .int .i64 0, .string nilB] 26)).alloc (.cells #[.int .i64 0, .int .i64 0, .string nilB] 26))
  rw [← hw2]
  clear hw2
  go_wp2
  refine bodyPost_ret (v := .tuple #[.agg #[.int .i64 c.kind, .int .i64 c.int, .string ⟨c.text.toArray⟩], .bool true]) ?_ rfl ⟨rfl, below_three HB2.out (Nat.le_refl _)⟩
  have hs := set_three (a := .int .i64 c.kind) (c := .int .i64 c.int) (d := .string ⟨c.text.toArray⟩) HA.out
  rw [results_cell_tmp rfl]
  simp [asAddr, run_loadVar_row _ w.heap.size 26 26 #[.int .i64 c.kind, .int .i64 c.int, .string ⟨c.text.toArray⟩] (0, 0) _ hs Tryd.underlying26 rfl size26, Result.andThen]

set_option maxRecDepth 100000 in
set_option maxHeartbeats 3200000 in
theorem const_any {D X M : Nat} {v : Value} {ids : List Cn} {w : World} (h : Tbl D X M v ids w) (i : Nat) (hi : i < ids.length) :
    Calls Tryd.prog 13 #[.pointer (some ⟨X, 0, none⟩), .int .i64 (i : Int)] w fun e w' => e = .returned (.tuple #[cnV ids[i], .int .i64 0]) ∧ Below w.heap.size w w' := by
  obtain ⟨c, hc⟩ : ∃ c, c = ids[i] := ⟨_, rfl⟩
  obtain ⟨w2, hw2⟩ : ∃ w2, w2 = w.alloc (.cells #[.int .i64 0, .int .i64 0, .string nilB] 26) := ⟨_, rfl⟩
  have hb2 : Below w.heap.size w w2 := by rw [hw2]; exact up_alloc _ _
  have hlt : w.heap.size < w2.heap.size := by rw [hw2]; simp
  have HA : Hid (w2.heap[w.heap.size]? = some (.cells #[.int .i64 0, .int .i64 0, .string nilB] 26)) := Lib.hid (by rw [hw2]; exact heap_alloc_new w _)
  have hc27 := at_any (h.up hb2) i hi
  rw [← hc] at hc27 ⊢
  unfold cnV at hc27
  have HB2 := Lib.hid hb2
  clear h hc hi hb2
  go_enter Tryd.func13, Tryd.ntmps13
  go_upto_region 1 with fail
  change Code.wp Tryd.prog _ _ _ (w.alloc (.cells #[.int .i64 0, .int .i64 0, .string nilB] 26))
  rw [← hw2]
  clear hw2
  go_upto_region 4 with (go_at_call 27; refine hc27.mono ?_; rintro e w3 ⟨rfl, hb3⟩)
  have HB3 := Lib.hid (HB2.out.trans (hb3.mono HB2.out.size))
  have HA3 := Lib.hid ((hb3.block _ hlt).trans HA.out)
  have hlt3 := Nat.lt_of_lt_of_le hlt hb3.size
  generalize hx : w3.alloc (.cells #[.int .i64 c.kind, .int .i64 c.int, .string ⟨c.text.toArray⟩] 26) = y1
  have hb : Below w3.heap.size w3 y1 := by rw [← hx]; exact up_alloc _ _
  have HB4 := Lib.hid (HB3.out.trans (hb.mono HB3.out.size))
  have HA4 := Lib.hid ((hb.block _ hlt3).trans HA3.out)
  have HD4 : Hid (y1.heap[w3.heap.size]? = some (.cells #[.int .i64 c.kind, .int .i64 c.int, .string ⟨c.text.toArray⟩] 26 (0, 0))) := by rw [← hx]; exact heap_alloc_new _ _
  obtain ⟨e0, e1, e2, _, _, _⟩ := three_cells HD4.out
  obtain ⟨d0, d1, d2, g0, g1, g2⟩ := three_cells HA4.out
  clear hx hb hb3 hc27 hlt hlt3
  go_wp2
  refine bodyPost_ret (v := .tuple #[.agg #[.int .i64 c.kind, .int .i64 c.int, .string ⟨c.text.toArray⟩], .int .i64 0]) ?_ rfl ⟨rfl, below_three HB4.out (Nat.le_refl _)⟩
  have hs := set_three (a := .int .i64 c.kind) (c := .int .i64 c.int) (d := .string ⟨c.text.toArray⟩) HA4.out
  rw [results_cell_tmp rfl]
  simp [asAddr, run_loadVar_row _ w.heap.size 26 26 #[.int .i64 c.kind, .int .i64 c.int, .string ⟨c.text.toArray⟩] (0, 0) _ hs Tryd.underlying26 rfl size26, Result.andThen]
end Go.Proofs.YtijmogehmcjopaaDoor
