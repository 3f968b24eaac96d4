/-
  The walk of the table's Sorted. Conditions: the table as it stands, its constants different ones, at most 65536.
-/
import Derived.Test.YtijmogehmcjopaaDoorW23
import Derived.Maps.AppendAt
namespace Go.Proofs.YtijmogehmcjopaaDoor
open Go.RowKit Go.Shelf Ct
attribute [local go_sem] Oper.semAt_some

def LtC (a b : Cn) : Prop := a.kind < b.kind ∨ a.kind = b.kind ∧ (a.int < b.int ∨ a.int = b.int ∧ a.text < b.text)
theorem cmpC_neg {a b : Cn} : cmpC a b < 0 ↔ LtC a b := by
  unfold cmpC cmpI cmpS LtC
  rcases Int.lt_trichotomy a.kind b.kind with h | h | h
  · simp [h]
  · rcases Int.lt_trichotomy a.int b.int with h2 | h2 | h2
    · simp [h, h2]
    · by_cases h3 : a.text < b.text
      · simp [h, h2, h3]
      · by_cases h4 : b.text < a.text <;> simp [h, h2, h3, h4]
    · have : ¬ a.int < b.int := by omega
      have h5 : ¬ a.int = b.int := by omega
      simp [h, h2, this, h5]
  · have : ¬ a.kind < b.kind := by omega
    have h5 : ¬ a.kind = b.kind := by omega
    simp [h, this, h5]
theorem ltC_irr (a : Cn) : ¬ LtC a a := by
  rintro (h | ⟨_, h | ⟨_, h⟩⟩)
  · omega
  · omega
  · exact lt_irr _ h
theorem ltC_trans {a b c : Cn} (h1 : LtC a b) (h2 : LtC b c) : LtC a c := by
  unfold LtC at *
  rcases h1 with h1 | ⟨e1, h1⟩
  · rcases h2 with h2 | ⟨e2, h2⟩ <;> exact .inl (by omega)
  · rcases h2 with h2 | ⟨e2, h2⟩
    · exact .inl (by omega)
    · refine .inr ⟨by omega, ?_⟩
      rcases h1 with h1 | ⟨e3, h1⟩
      · rcases h2 with h2 | ⟨e4, h2⟩ <;> exact .inl (by omega)
      · rcases h2 with h2 | ⟨e4, h2⟩
        · exact .inl (by omega)
        · exact .inr ⟨by omega, List.lt_trans h1 h2⟩
theorem ltC_tri (a b : Cn) : LtC a b ∨ a = b ∨ LtC b a := by
  unfold LtC
  rcases Int.lt_trichotomy a.kind b.kind with h | h | h
  · exact .inl (.inl h)
  · rcases Int.lt_trichotomy a.int b.int with h2 | h2 | h2
    · exact .inl (.inr ⟨h, .inl h2⟩)
    · rcases lt_tri a.text b.text with h3 | h3 | h3
      · exact .inl (.inr ⟨h, .inr ⟨h2, h3⟩⟩)
      · refine .inr (.inl ?_)
        cases a; cases b; simp only at h h2 h3; subst h h2 h3; rfl
      · exact .inr (.inr (.inr ⟨h.symm, .inr ⟨h2.symm, h3⟩⟩))
    · exact .inr (.inr (.inr ⟨h.symm, .inl h2⟩))
  · exact .inr (.inr (.inl h))

theorem info3 : (Tryd.prog.info? 3).map (fun i => (i.zero, i.size, i.bytes)) = some (some (.int .i64 0), 1, 8) := by kernel_rfl
theorem boxed_own' {β : Type} {B : Nat} {t : TypeId} {v : Value} : Own (fun (_ : β) W => Boxed W B t v) := fun _ X _ _ hv hg hrow => Boxed.kept hv hg (fun e' => by
  obtain ⟨o, ho, hc⟩ := hrow B e'.symm
  rw [show X.heap[B]? = _ from hv] at ho; cases ho; cases hc)
def intL (l : List Nat) : List Value := l.map fun (i : Nat) => .int .i64 (i : Int)

section
open Go.Sort
variable {α : Type} [Inhabited α]
theorem sort_grown (enc : α → Value) {w : World} {g m : Nat} {os : Array Obj} (d : Array α) : w.grownBy (sortWorld enc w g 0 m d os) (some g) := by
  refine ⟨rfl, rfl, rfl, by simp [sortWorld, grow], fun k hk hne => ?_⟩
  unfold sortWorld
  rw [Go.Sort.heap_grow_old _ _ (by simpa using hk)]
  have : g ≠ k := fun e => hne (by rw [e])
  simp [putRow, mapBlock, Sort.ahead, Array.getElem?_modify, this]
theorem sort_own (enc : α → Value) {w : World} {base g cap m n : Nat} {e : TypeId} {os : Array Obj} {xs : List Value} (ho : w.ownsRow base e 1 (.slice (some ⟨g, 0, none⟩) n cap) n xs) (d : Array α) (hd : d.size = n) :
    (sortWorld enc w g 0 m d os).ownsRow base e 1 (.slice (some ⟨g, 0, none⟩) n cap) n (d.toList.map enc) := by
  rcases ho.2 with ⟨h1, _⟩ | ⟨g', cap', cur, h1, hb, hg, hnc, hcm, hcs, htake⟩
  · cases h1
  · injection h1 with h1 h2 h3
    injection h1 with h1
    injection h1 with h1
    subst h1 h3
    have hlt : g < w.heap.size := heap_lt hg
    refine ⟨by simp [hd], .inr ⟨g, cap, putCells enc 0 d cur, rfl, hb, ?_, hnc, hcm, by simp [putCells, hcs], ?_⟩⟩
    · unfold sortWorld
      rw [Go.Sort.heap_grow_old _ _ (by simpa using hlt)]
      simp [putRow, mapBlock, Sort.ahead, Array.getElem?_modify, hg, onCells]
    · apply List.ext_getElem?
      intro j
      by_cases hj : j < n
      · rw [List.getElem?_take_of_lt (by omega), Array.getElem?_toList]
        have hjc : j < cur.size := by omega
        have hjd : j < d.size := by omega
        simp [putCells, hjd, hjc]
      · rw [List.getElem?_take_eq_none (by omega), List.getElem?_eq_none (by simp; omega)]
end
theorem nodup_inj {l : List Cn} (hd : l.Nodup) {i j : Nat} (hi : i < l.length) (hj : j < l.length) (h : l[i] = l[j]) : i = j := by
  rcases Nat.lt_trichotomy i j with h1 | h1 | h1
  · exact absurd h (List.pairwise_iff_getElem.1 hd i j hi hj h1)
  · exact h1
  · exact absurd h.symm (List.pairwise_iff_getElem.1 hd j i hj hi h1)
theorem upto_fst (ids : List Cn) (n : Nat) : (upto ids n).map Prod.fst = List.range n := by
  simp only [upto, List.map_map]
  exact List.map_id'' (fun _ => rfl) _

set_option maxRecDepth 100000 in
set_option maxHeartbeats 6400000 in
theorem sorted_any {D X M : Nat} {v : Value} {ids : List Cn} {w : World} (h : Tbl D X M v ids w) (hlen : ids.length ≤ 65536) (hd : ids.Nodup) :
    CallsIn Fence.wide 9 Tryd.prog 17 #[.pointer (some ⟨X, 0, none⟩)] w fun e w' => ∃ o, e = .returned o ∧ (∃ order : List Nat, order.Perm (List.range ids.length) ∧ order.Pairwise (fun i j => LtC (ids.getD i cn0) (ids.getD j cn0)) ∧ w'.ownsRow w.heap.size 3 1 o ids.length (intL order)) ∧ Below w.heap.size w w' := by
  obtain ⟨i0, hi, hz0, hz1, hz2⟩ := info_parts info3
  obtain ⟨n, hnE⟩ : ∃ n, n = ids.length := ⟨_, rfl⟩
  have HNE := Lib.hid hnE
  rw [← hnE] 
  clear hnE
  refine callsIn_of_wp_marks Tryd.func17 rfl trivial ?_ rfl
  simp only [Tryd.ntmps17, List.size_toArray, List.length_cons, List.length_nil, Nat.reduceAdd, Nat.reduceSub, Array.replicate_succ, Array.replicate_zero, List.push_toArray, List.append_toArray, List.nil_append, List.cons_append]
  gi_wp2_with (refine ⟨trivial, (all_in _ X _).mono ?_⟩; rintro e w' ⟨rfl, rfl⟩)
  obtain ⟨w3, hw3⟩ : ∃ w3, w3 = (((w.alloc (.cells #[.pointer (some ⟨X, 0, none⟩)] 23)).alloc (.cells #[.slice none 0 0] 44)).alloc (.cells #[.pointer (some ⟨X, 0, none⟩)] 47)) := ⟨_, rfl⟩
  rw [← hw3]
  have s3 : w3.heap.size = w.heap.size + 3 := by rw [hw3]; simp
  have bT : Boxed w3 w.heap.size 23 (.pointer (some ⟨X, 0, none⟩)) := by rw [hw3]; exact ((Boxed.new w 23 _).alloc _).alloc _
  have bL : Boxed w3 (w.heap.size + 1) 44 (.slice none 0 0) := by
    rw [hw3]
    have := (Boxed.new (w.alloc (.cells #[.pointer (some ⟨X, 0, none⟩)] 23)) 44 (.slice none 0 0)).alloc (.cells #[.pointer (some ⟨X, 0, none⟩)] 47)
    simpa using this
  have bA : Boxed w3 (w.heap.size + 1 + 1) 47 (.pointer (some ⟨X, 0, none⟩)) := by
    rw [hw3]
    have := Boxed.new ((w.alloc (.cells #[.pointer (some ⟨X, 0, none⟩)] 23)).alloc (.cells #[.slice none 0 0] 44)) 47 (.pointer (some ⟨X, 0, none⟩))
    simpa using this
  have hB3 : Below w.heap.size w w3 := by rw [hw3]; exact (((Below.refl _ w).alloc (Nat.le_refl _) _).alloc (by simp) _).alloc (by simp; omega) _
  have hT3 : ∀ W', Below w.heap.size w3 W' → Tbl D X M v ids W' := fun W' hb => h.up (hB3.trans hb)
  clear hw3
  refine wpIn_rangeFunc_ownG rfl (by omega) (gf := 49) (lb := #[.pointer (some ⟨w.heap.size + 1 + 1, 0, none⟩)]) rfl trivial (enters_of Tryd.func49 (by kernel_rfl) rfl)
    (all_stops 8 (by omega) (w.heap.size + 1 + 1) w.heap.size w3 (by omega) (by omega) bA hT3 hlen) Kp.trans (fun W l o o' hl hh h1 h2 => ⟨belowK_b (by omega) W l o o' hl hh h1 h2, World.putObj_heap_other (by omega)⟩) (Below.refl _ _) (fun _ => rfl)
    (fun pre W => (((∃ o, Boxed W (w.heap.size + 1) 44 o ∧ W.ownsRow w.heap.size 3 1 o pre.length (intL (pre.map Prod.fst)) ∧ True) ∧ Boxed W w.heap.size 23 (.pointer (some ⟨X, 0, none⟩))) ∧ Boxed W (w.heap.size + 1 + 1) 47 (.pointer (some ⟨X, 0, none⟩))) ∧ Below w.heap.size w W)
    (fun _ _ _ => False)
    (OwnFrom.and (OwnFrom.and (OwnFrom.and (Own.from (holdsRow_own w.heap.size (w.heap.size + 1) 44 3 1 (fun (pre : List (Nat × Cn)) => pre.length) (fun (pre : List (Nat × Cn)) => intL (pre.map Prod.fst)) (fun _ _ => True)) _) (Own.from boxed_own' _)) (Own.from boxed_own' _)) (ownFrom_below (Nat.le_refl _) (by omega)))
    (fun _ _ _ _ _ hs _ _ => hs)
    ⟨⟨⟨⟨_, bL, World.ownsRow_nil _ _ _ _, trivial⟩, bT⟩, bA⟩, hB3⟩
    (fun x => { tmps := #[.pointer (some ⟨X, 0, none⟩), .pointer (some ⟨w.heap.size, 0, none⟩), .slice none 0 0, .pointer (some ⟨w.heap.size + 1, 0, none⟩), .int .i64 (x.1 : Int), .pointer (some ⟨X, 0, none⟩), .bool false, .pointer (some ⟨X, 0, none⟩), .pointer (some ⟨X, 0, none⟩), .pointer (some ⟨X, 0, none⟩), .func (.func 49) #[] #[.pointer (some ⟨w.heap.size + 1 + 1, 0, none⟩)], .int .i64 (x.1 : Int), cnV x.2, undef, undef, undef, undef, undef, undef, undef, undef], defers := [] }) ?assign ?body ?done ?stop
  case assign =>
    intro l x W K hK
    simp only [encA]
    gi_wp2
    exact hK
  case body =>
    rintro l pre x W ⟨⟨⟨⟨o, hv, hrow, -⟩, hbT⟩, hbA⟩, hB⟩ hlt
    have hc := hv.cell
    gi_wp2_with (gi_at_builtin; refine wpListIn_append_own _ rfl _ _ 44 rfl w.heap.size 3 i0 (.int .i64 0) 1 8 Tryd.underlying44 hi hz0 hz1 hz2 rfl (by decide) _ _ _ rfl (hrow.alloc _) ⟨W.heap.size, 0, none⟩ 1 1 [.int .i64 (x.1 : Int)] rfl rfl (cell_one_new _ _ _) (by simp [Value.oneCell']) (by unfold maxLen; omega) (by omega) (by have := hB.size; simp; omega) ?_; intro v' w4 hown' hgrow _; obtain ⟨g', cap', rfl⟩ := ownsRow_succ hown'; obtain ⟨hv1, hv2, hr2, hk2, hb2⟩ := hv.appended (by decide) hrow hB.size (by omega) hown' hgrow; have hc1 := hv1.cell; have hf1 := hv1.frozen)
    have hnr := hbA.not_row (by decide) hrow
    have hnt := hbT.not_row (by decide) hrow
    have hA4 : Boxed (w4.setCell ⟨w.heap.size + 1, 0, none⟩ (.slice (some ⟨g', 0, none⟩) (pre.length + 1) cap')) (w.heap.size + 1 + 1) 47 (.pointer (some ⟨X, 0, none⟩)) := ((hbA.alloc _).kept hgrow hnr).kept (grownBy_setCell' _ _ _) (by simp)
    refine ⟨hk2.from _, ⟨hb2, ?_⟩, ⟨⟨⟨_, hv2, by simpa [intL] using hr2, trivial⟩, ((hbT.alloc _).kept hgrow hnt).kept (grownBy_setCell' _ _ _) (by simp)⟩, hA4⟩, hB.trans hb2⟩
    exact hA4.trans hbA.symm
  case done =>
    rintro D' ys W hD rfl ⟨⟨⟨⟨o, hv, hrow, -⟩, hbT⟩, hbA⟩, hB⟩ hK
    rw [upto_length, upto_fst, ← HNE.out] at hrow
    have hc := hv.cell
    have hcT := hbT.cell
    by_cases hn0 : n = 0
    · subst hn0
      obtain ⟨ao, cap, rfl⟩ := own_form hrow
      have hsort := fun (fv : Value) (W : World) => AnyF.slices_SortFunc_none (P := Tryd.prog) (ρ := Tryd.sortL_ren) { Tryd.sortL with } ao cap fv W
      gi_wp2_with (refine ⟨trivial, (callsIn_wide.2 (hsort _ _)).mono ?_⟩; rintro e w' ⟨rfl, hw9⟩; rw [hw9]; clear hw9)
      have hor : W.ownsRow w.heap.size 3 1 (.slice ao 0 cap) 0 (intL []) := by simpa [intL] using hrow
      gi_wp2
      refine ⟨by simp, .inl ⟨_, _, rfl, run_takeDeferred hK, ?_⟩⟩
      exact ⟨_, results_tmp rfl _ _ _, _, rfl, ⟨[], by simp, List.Pairwise.nil, ownsRow_putObj hor _ hK rfl⟩, hB.trans (belowK_b (w := w) (Nat.le_refl _) W D' _ _ (by omega) hK rfl rfl)⟩
    · obtain ⟨g, cap, rfl⟩ := Joins.ownsRow_form hrow (by omega)
      have hpos : 0 < n := by omega
      haveI : Inhabited (Fin n) := ⟨⟨0, hpos⟩⟩
      obtain ⟨enc, henc⟩ : ∃ enc : Fin n → Value, enc = fun x => .int .i64 (x.val : Int) := ⟨_, rfl⟩
      obtain ⟨cf, hcf⟩ : ∃ cf : Fin n → Fin n → Int, cf = fun x y => cmpC (ids.getD x.val cn0) (ids.getD y.val cn0) := ⟨_, rfl⟩
      have hlt : ∀ x y, (ltOf cf) x y = true ↔ LtC (ids.getD x.val cn0) (ids.getD y.val cn0) := fun x y => by rw [ltOf, decide_eq_true_eq, hcf]; exact cmpC_neg
      have hltf : ∀ x y, (ltOf cf) x y = false ↔ ¬ LtC (ids.getD x.val cn0) (ids.getD y.val cn0) := fun x y => by rw [← hlt, Bool.not_eq_true]
      have hT : ∀ x y, (ltOf cf) x y = false → (ltOf cf) y x = false → x = y := fun x y h1 h2 => by
        rw [hltf] at h1 h2
        rcases ltC_tri (ids.getD x.val cn0) (ids.getD y.val cn0) with h | h | h
        · exact absurd h h1
        · have e1 := HNE.out
          have hx : x.val < ids.length := by have := x.isLt; omega
          have hy : y.val < ids.length := by have := y.isLt; omega
          simp only [List.getD_eq_getElem?_getD, List.getElem?_eq_getElem hx, List.getElem?_eq_getElem hy, Option.getD_some] at h
          exact Fin.ext (nodup_inj hd hx hy h)
        · exact absurd h h2
      have hO : Go.Sort.SWO (ltOf cf) := by
        refine ⟨fun x => (hltf x x).2 (ltC_irr _), fun x y z h1 h2 => (hlt _ _).2 (ltC_trans ((hlt _ _).1 h1) ((hlt _ _).1 h2)), fun x y z h1 h2 => ?_⟩
        rw [hltf] at h1 h2 ⊢
        intro h3
        rcases ltC_tri (ids.getD x.val cn0) (ids.getD y.val cn0) with h | h | h
        · exact h1 h
        · rw [h] at h3; exact h2 h3
        · exact h2 (ltC_trans h h3)
      obtain ⟨d, hdd⟩ : ∃ d : Array (Fin n), d = Array.ofFn (fun i : Fin n => i) := ⟨_, rfl⟩
      have hds : d.size = n := by rw [hdd]; simp
      have hdm : d.toList.map Fin.val = List.range n := by
        rw [hdd]
        apply List.ext_getElem
        · simp
        · intro i h1 h2; simp
      have hgc := hrow.cells (g := g) rfl
      obtain ⟨cur, hgb⟩ : ∃ cur, W.heap[g]? = some (.cells cur 3 (0, 0)) := by
        rcases hrow.2 with ⟨h1, _⟩ | ⟨g', cap', cur, h1, _, hg, _⟩
        · cases h1
        · injection h1 with h1 _ _; injection h1 with h1; injection h1 with h1; subst h1; exact ⟨cur, hg⟩
      have hH : Go.Sort.Holds enc W g 0 d := fun j hj => by
        have hjn : j < n := by omega
        refine ⟨?_, by simp [World.frozen?, hgb]⟩
        have := hgc j (.int .i64 (j : Int)) (by simp [intL, hjn])
        rw [add_zero'] at this
        rw [Nat.zero_add, this, getElem!_pos d j hj, henc]
        simp [hdd]
      have hTW := h.up hB
      obtain ⟨t0, t1, _, _⟩ := two_cells hTW.blk
      have hXg : X ≠ g := fun e => by have := hTW.blk; rw [e, hgb] at this; cases this
      have hbg : w.heap.size ≠ g := fun e => by have := hbT; unfold Boxed at this; rw [e, hgb] at this; cases this
      have hlg : w.heap.size + 1 ≠ g := fun e => by have := hv; unfold Boxed at this; rw [e, hgb] at this; cases this
      have hDg : D' ≠ g := fun e => by rw [e, hgb] at hK; cases hK
      obtain ⟨gv, capv, hvv⟩ := Joins.ownsRow_form hTW.own (by have := HNE.out; omega)
      have hcmp : CmpLays1 Tryd.prog 34 #[.pointer (some ⟨w.heap.size, 0, none⟩)] enc cf g 0 d.size W := fun m os dk hdk x y => by
        have hgv : gv ≠ g := by
          intro e
          have h1 := hTW.own.2
          rw [hvv] at h1
          rcases h1 with ⟨h1, _⟩ | ⟨g', cap', cu, h1, _, hg', _⟩
          · cases h1
          · injection h1 with h1 _ _; injection h1 with h1; injection h1 with h1; subst h1; rw [e, hgb] at hg'; cases hg'
        have own' := hTW.own
        rw [hvv] at own'
        have hgl : gv < W.heap.size := by have := own'.lt gv rfl; omega
        have hx : x.val < ids.length := by have := x.isLt; have := HNE.out; omega
        have hy : y.val < ids.length := by have := y.isLt; have := HNE.out; omega
        obtain ⟨a0, a1, a2⟩ := cn_cells own' hx
        obtain ⟨c0, c1, c2⟩ := cn_cells own' hy
        have hsz : W.heap.size ≤ (sortWorld enc W g 0 m dk os).heap.size := (sort_grown enc (w := W) (g := g) (m := m) (os := os) dk).size
        have cc : ∀ (a : Addr), a.block ≠ g → a.block < W.heap.size → (sortWorld enc W g 0 m dk os).cell? a = W.cell? a := fun a q1 q2 => World.cell?_of_block ((sort_grown enc (w := W) (g := g) (m := m) (os := os) dk).block a.block q2 (by simpa using q1))
        have hXl := heap_lt hTW.blk
        have hbl := heap_lt hbT
        have := cmp34 (sortWorld enc W g 0 m dk os) w.heap.size X gv capv ids.length x.val y.val ids[x.val] ids[y.val] hx hy (by omega) (by omega) (by omega)
          ((cc _ hbg hbl).trans hcT) ((cc _ hXg hXl).trans (by rw [t0, hvv])) ((cc _ hgv hgl).trans a0) ((cc _ hgv hgl).trans a1) ((cc _ hgv hgl).trans a2) ((cc _ hgv hgl).trans c0) ((cc _ hgv hgl).trans c1) ((cc _ hgv hgl).trans c2)
        rw [henc, hcf]
        simp only [List.getD_eq_getElem?_getD, List.getElem?_eq_getElem hx, List.getElem?_eq_getElem hy, Option.getD_some]
        rw [← henc]
        exact this
      have hsort := Any.slices_SortFunc_total Tryd.sortL enc (fun x => by rw [henc]; rfl) cf hO 34 #[.pointer (some ⟨w.heap.size, 0, none⟩)] g 0 cap d W (enters_of Tryd.func34 (by kernel_rfl) rfl) hcmp hH (heap_lt hgb) (by have := HNE.out; omega) hT
      rw [hds] at hsort
      obtain ⟨sd, hsd⟩ : ∃ sd, sd = d.toList.mergeSort (fun x y => !(ltOf cf) y x) := ⟨_, rfl⟩
      rw [← hsd] at hsort
      have hperm : sd.Perm d.toList := by rw [hsd]; exact List.mergeSort_perm _ _
      have hpw : sd.Pairwise (fun x y => (!(ltOf cf) y x) = true) := by
        rw [hsd]
        refine List.pairwise_mergeSort (fun a b c h1 h2 => ?_) (fun a b => ?_) _
        · simp only [Bool.not_eq_true'] at h1 h2 ⊢
          exact hO.ntrans _ _ _ h2 h1
        · cases hab : (ltOf cf) b a with
          | false => rfl
          | true =>
            cases hba : (ltOf cf) a b with
            | false => rfl
            | true => have := hO.trans _ _ _ hab hba; rw [hO.irrefl] at this; cases this
      have hnd : d.toList.Nodup := by
        have : (d.toList.map Fin.val).Nodup := by rw [hdm]; exact List.nodup_range
        exact (List.pairwise_map.1 this).imp (fun h e => h (by rw [e]))
      have hpw2 : sd.Pairwise (fun x y => LtC (ids.getD x.val cn0) (ids.getD y.val cn0)) := by
        have h2 : sd.Pairwise (· ≠ ·) := (hperm.nodup_iff).2 hnd
        refine List.Pairwise.imp (fun {x y} hxy => ?_) (List.pairwise_and_iff.2 ⟨hpw, h2⟩)
        obtain ⟨h1, hne⟩ := hxy
        simp only [Bool.not_eq_true'] at h1
        refine (hlt _ _).1 ?_
        cases hxy2 : (ltOf cf) x y with
        | true => rfl
        | false => exact absurd (hT _ _ hxy2 h1) hne
      have hsdl : sd.length = n := by rw [hperm.length_eq]; simpa using hds
      have horder : (sd.map Fin.val).Perm (List.range n) := by rw [← hdm]; exact hperm.map _
      have hpw3 : (sd.map Fin.val).Pairwise (fun i j => LtC (ids.getD i cn0) (ids.getD j cn0)) := List.pairwise_map.2 hpw2
      have HS := Lib.hid (And.intro horder hpw3)
      have HROW : Hid (∀ m os, (sortWorld enc W g 0 m sd.toArray os).ownsRow w.heap.size 3 1 (.slice (some ⟨g, 0, none⟩) n cap) n (intL (sd.map Fin.val))) := Lib.hid fun m os => by
        have := sort_own enc (m := m) (os := os) hrow sd.toArray (by simpa using hsdl)
        rw [henc] at this ⊢
        simpa [intL, Function.comp_def] using this
      have HGR := Lib.hid (fun m os => sort_grown enc (w := W) (g := g) (m := m) (os := os) sd.toArray)
      have HC := Lib.hid (show ∀ m os, (sortWorld enc W g 0 m sd.toArray os).cell? ⟨w.heap.size + 1, 0, none⟩ = some (.slice (some ⟨g, 0, none⟩) n cap) from fun m os => (World.cell?_of_block ((sort_grown enc (w := W) (g := g) (m := m) (os := os) sd.toArray).block (w.heap.size + 1) (heap_lt hv) (by simpa using hlg))).trans hc)
      have HGL := Lib.hid (hrow.lt g rfl)
      clear horder hpw3 hpw2 hnd hpw hperm hsd hcmp hTW t0 t1 hH hgc hdm hds hdd hO hT hlt hltf
      have HENC := Lib.hid henc
      clear henc hcf
      gi_wp2
      refine ⟨trivial, (callsIn_wide.2 hsort).mono ?_⟩
      rintro e w9 ⟨rfl, m, os, hw9⟩
      have hc2 : w9.cell? ⟨w.heap.size + 1, 0, none⟩ = some (.slice (some ⟨g, 0, none⟩) n cap) := by rw [hw9]; exact HC.out m os
      have HW9 := Lib.hid hw9
      clear hw9
      gi_wp2
      have hg9 : W.grownBy w9 (some g) := by rw [HW9.out]; exact HGR.out m os
      have hK9 : w9.heap[D']? = some (.deferred (some [])) := (hg9.block D' (heap_lt hK) (by simpa using hDg)).trans hK
      have hrow9 : w9.ownsRow w.heap.size 3 1 (.slice (some ⟨g, 0, none⟩) n cap) n (intL (sd.map Fin.val)) := by rw [HW9.out]; exact HROW.out m os
      have hB9 : Below w.heap.size w w9 := hB.grown hg9 hB.size (fun k e => by cases e; exact HGL.out.1)
      refine ⟨by simp, .inl ⟨_, _, rfl, run_takeDeferred hK9, ?_⟩⟩
      exact ⟨_, results_tmp rfl _ _ _, _, rfl, ⟨_, HS.out.1, HS.out.2, ownsRow_putObj hrow9 _ hK9 rfl⟩, hB9.trans (belowK_b (w := w) (Nat.le_refl _) w9 D' _ _ (by omega) hK9 rfl rfl)⟩
  case stop =>
    rintro D' c pre W _ _ hf _
    exact hf.elim
end Go.Proofs.YtijmogehmcjopaaDoor
