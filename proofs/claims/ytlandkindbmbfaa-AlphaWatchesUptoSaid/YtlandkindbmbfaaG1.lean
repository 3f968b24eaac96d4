/-
  Texts of this seat, one behind the other: Plain, Kit, W1, W2, Plain2, W3. Conditions: those that each of them states.
-/
import Derived.Test.YtlandkindbmbfaaProg
import Derived.WalkKit
import Derived.WalkLawsBesides
import Derived.WalkSpells
import Derived.Lib.Hide
import Derived.Lib.SmallJoins
import Derived.Deep.QuietTactic
import Derived.BigQuiet
import Derived.Deep.Onto
/-
  Plain laws of shapes: which are valid, which rows fit, which shape covers another. No program is in sight here; no condition beyond those that each lemma states.
-/
namespace Go.Proofs.Ytlandkindbmbfaa.Plain

/-- The element at a place; 0 behind the end. -/
def at' (l : List Int) (i : Nat) : Int := l[i]?.getD 0

structure Shp where
  pred : Int
  cells : List Int

def okAt (l : List Int) (i : Nat) : Bool :=
  decide (0 ≤ at' l i) || (decide ((-1 - at' l i).toNat ≤ i) && at' l (-1 - at' l i).toNat == at' l i)
def validB (s : Shp) : Bool := decide (0 ≤ s.pred) && (List.range s.cells.length).all (okAt s.cells)

def OkTo (l : List Int) (k : Nat) : Prop := ∀ i, i < k → okAt l i = true
theorem OkTo.start (l : List Int) : OkTo l 0 := fun i h => by omega
theorem OkTo.round {l : List Int} {k : Nat} (h : OkTo l k) (hk : okAt l k = true) : OkTo l (k + 1) := fun i hi => by
  by_cases e : i = k
  · subst e; exact hk
  · exact h i (by omega)
theorem all_range {n : Nat} {f : Nat → Bool} : (List.range n).all f = true ↔ ∀ i, i < n → f i = true := by
  simp [List.all_eq_true, List.mem_range]
theorem validB_true {s : Shp} (hp : 0 ≤ s.pred) (h : OkTo s.cells s.cells.length) : validB s = true := by
  unfold validB; rw [Bool.and_eq_true]; exact ⟨by simpa using hp, all_range.2 h⟩
theorem validB_bad {s : Shp} {i : Nat} (hi : i < s.cells.length) (h : okAt s.cells i = false) : validB s = false := by
  unfold validB
  have : (List.range s.cells.length).all (okAt s.cells) = false := by
    rw [Bool.eq_false_iff]
    intro e
    rw [all_range.1 e i hi] at h
    cases h
  rw [this, Bool.and_false]
theorem validB_neg {s : Shp} (hp : s.pred < 0) : validB s = false := by
  unfold validB; rw [decide_eq_false (by omega), Bool.false_and]

theorem okAt_pos {l : List Int} {i : Nat} {c : Int} (hc : c = at' l i) (h : 0 ≤ c) : okAt l i = true := by
  unfold okAt; rw [← hc, decide_eq_true h, Bool.true_or]
theorem okAt_far {l : List Int} {i j : Nat} {c : Int} (hc : c = at' l i) (h : c < 0) (hj : -1 - c = (j : Int)) (hji : i < j) : okAt l i = false := by
  unfold okAt; rw [← hc, hj, decide_eq_false (by omega), decide_eq_false (by simp; omega)]; rfl
theorem okAt_same {l : List Int} {i j : Nat} {c : Int} (hc : c = at' l i) (h : c < 0) (hj : -1 - c = (j : Int)) (hji : j ≤ i) (he : at' l j = c) : okAt l i = true := by
  unfold okAt; rw [← hc, hj, Int.toNat_natCast, he]; simp; omega
theorem okAt_other {l : List Int} {i j : Nat} {c : Int} (hc : c = at' l i) (h : c < 0) (hj : -1 - c = (j : Int)) (he : at' l j ≠ c) : okAt l i = false := by
  unfold okAt; rw [← hc, hj, Int.toNat_natCast, decide_eq_false (by omega)]; simp [he]

/-! ### Lists that are the same -/
def EqTo (l m : List Int) (k : Nat) : Prop := ∀ j, j < k → at' l j = at' m j
theorem EqTo.start (l m : List Int) : EqTo l m 0 := fun j h => by omega
theorem EqTo.round {l m : List Int} {k : Nat} {x y : Int} (h : EqTo l m k) (hx : x = at' l k) (hy : y = at' m k) (e : x = y) : EqTo l m (k + 1) := fun j hj => by
  by_cases ej : j = k
  · subst ej; rw [← hx, ← hy, e]
  · exact h j (by omega)
theorem eq_of_at {l m : List Int} (hl : l.length = m.length) (h : EqTo l m l.length) : l = m := by
  apply List.ext_getElem hl
  intro i h1 h2
  have := h i h1
  unfold at' at this
  rw [List.getElem?_eq_getElem h1, List.getElem?_eq_getElem h2] at this
  simpa using this
theorem decide_len {l m : List Int} (h : l.length ≠ m.length) : decide (l = m) = false := decide_eq_false fun e => h (by rw [e])
theorem decide_at {l m : List Int} {k : Nat} {x y : Int} (hx : x = at' l k) (hy : y = at' m k) (e : x ≠ y) : decide (l = m) = false := decide_eq_false fun h => e (by rw [hx, hy, h])

end Go.Proofs.Ytlandkindbmbfaa.Plain
/-
  What the walks of the layer of shapes are told of values in memory: slices of ints, shapes; and the posts of functions that answer a bool. No condition beyond those that each lemma states.
-/
namespace Go.Proofs.Ytlandkindbmbfaa
open Go.RowKit Plain

def BoolIs (w : World) (b : Bool) (e : Ending) (w' : World) : Prop := e = .returned (.bool b) ∧ Below w.heap.size w w'

theorem ret_bool {b c : Bool} (h : b = c) : Ending.returned (.bool b) = .returned (.bool c) := by rw [h]

/-- A slice value that reads as the ints l, all below block B. -/
def IntsAt (w : World) (B : Nat) (v : Value) (l : List Int) : Prop :=
  ∃ (a : Option Addr) (cap : Nat), v = .slice a l.length cap ∧ (l = [] ∨ ∃ g off, a = some ⟨g, off, none⟩ ∧ g < B ∧ ∀ j, j < l.length → w.cell? ⟨g, off + j, none⟩ = some (.int .i64 (at' l j)))
/-- Every element is an int. -/
def I64s (l : List Int) : Prop := ∀ j : Nat, -9223372036854775808 ≤ at' l j ∧ at' l j ≤ 9223372036854775807

theorem IntsAt.below {w w' : World} {B : Nat} {v : Value} {l : List Int} (h : IntsAt w B v l) (hb : Below B w w') : IntsAt w' B v l := by
  obtain ⟨a, cap, rfl, h⟩ := h
  refine ⟨a, cap, rfl, ?_⟩
  rcases h with rfl | ⟨g, off, rfl, hg, hc⟩
  · exact .inl rfl
  · exact .inr ⟨g, off, rfl, hg, fun j hj => (hb.cell (p := ⟨g, off + j, none⟩) hg).trans (hc j hj)⟩
theorem IntsAt.mono {w : World} {B B' : Nat} {v : Value} {l : List Int} (h : IntsAt w B v l) (hb : B ≤ B') : IntsAt w B' v l := by
  obtain ⟨a, cap, rfl, h⟩ := h
  refine ⟨a, cap, rfl, ?_⟩
  rcases h with rfl | ⟨g, off, rfl, hg, hc⟩
  · exact .inl rfl
  · exact .inr ⟨g, off, rfl, by omega, hc⟩
theorem IntsAt.alloc {w : World} {B : Nat} {v : Value} {l : List Int} (h : IntsAt w B v l) (hb : B ≤ w.heap.size) (o : Obj) : IntsAt (w.alloc o) B v l :=
  h.below ((Below.refl _ _).alloc hb o)

end Go.Proofs.Ytlandkindbmbfaa
/-
  The walks of alpha.Valid and edictref10.Valid: each answers the plain 'validB'. Conditions: the cells are ints, fewer than 2^45.
-/
namespace Go.Proofs.Ytlandkindbmbfaa
open Go.RowKit Plain

set_option maxRecDepth 100000 in
set_option maxHeartbeats 1600000 in
theorem valid_any (s : Shp) (v : Value) (w : World) (hv : IntsAt w w.heap.size v s.cells) (hi : I64s s.cells) (hn : s.cells.length ≤ 35184372088832) :
    Calls Try.prog 17 #[.agg #[.int .i64 s.pred, v]] w (BoolIs w (validB s)) := by
  obtain ⟨V, hV⟩ : ∃ V, V = validB s := ⟨_, rfl⟩
  rw [← hV]
  have HV := Lib.hid hV
  clear hV
  obtain ⟨p, l⟩ := s
  simp only at hv hi hn ⊢
  by_cases hp : p < 0
  · have HR := Lib.hid (show V = false by rw [HV.out]; exact validB_neg hp)
    obtain ⟨a, cap, rfl, h⟩ := hv
    clear h
    go_enter Try.func17, Try.ntmps17
    go_wp2
    go_ret
    exact ⟨ret_bool HR.out.symm, (Below.refl _ _).alloc (Nat.le_refl _) _⟩
  · obtain ⟨a, cap, rfl, h⟩ := hv
    rcases h with rfl | ⟨g, off, rfl, hg, hc⟩
    · have HR := Lib.hid (show V = true by rw [HV.out]; exact validB_true (by simpa using hp) (OkTo.start _))
      go_enter Try.func17, Try.ntmps17
      go_wp2
      refine wp_loop_rounds 1 ?_
      rw [rounds_succ]
      go_wp2
      go_ret
      exact ⟨ret_bool HR.out.symm, (Below.refl _ _).alloc (Nat.le_refl _) _⟩
    · go_enter Try.func17, Try.ntmps17
      go_wp2
      go_loop [12] (fun k => ∃ i : Nat, k = .int .i64 (i : Int) ∧ i ≤ l.length ∧ Hid (OkTo l i)) (fun k => l.length - (intOf k).toNat)
      case atStart => exact ⟨0, rfl, Nat.zero_le _, OkTo.start l⟩
      case round =>
        obtain ⟨i, rfl, hil, hO⟩ := hrel
        by_cases h1 : i < l.length
        · obtain ⟨c, hcc⟩ : ∃ c, c = at' l i := ⟨_, rfl⟩
          have hcb : -9223372036854775808 ≤ c ∧ c ≤ 9223372036854775807 := by rw [hcc]; exact hi i
          have hcell : (w.alloc (.cells #[.int .i64 p, .slice (some ⟨g, off, none⟩) l.length cap] 27)).cell? ⟨g, off + i, none⟩ = some (.int .i64 c) := by
            rw [hcc, World.cell?_alloc_past _ _ _ hg]; exact hc i h1
          by_cases h2 : 0 ≤ c
          · have HO := Lib.hid (hO.out.round (okAt_pos hcc h2))
            clear hcc hc hO hi
            go_wp2
            go_round
            case rel => exact ⟨i + 1, by go_num, by omega, HO.out⟩
            case measure => simp only [intOf]; omega
          · obtain ⟨j, hj⟩ : ∃ j : Nat, -1 - c = (j : Int) := ⟨(-1 - c).toNat, by omega⟩
            have hcneg : c < 0 := by omega
            by_cases h3 : i < j
            · have HR := Lib.hid (show V = false by rw [HV.out]; exact validB_bad h1 (okAt_far hcc hcneg hj h3))
              clear hcc hc hO hi HV h2
              go_wp2
              go_ret
              exact ⟨ret_bool HR.out.symm, (Below.refl _ _).alloc (Nat.le_refl _) _⟩
            · obtain ⟨d, hd⟩ : ∃ d, d = at' l j := ⟨_, rfl⟩
              have hcell2 : (w.alloc (.cells #[.int .i64 p, .slice (some ⟨g, off, none⟩) l.length cap] 27)).cell? ⟨g, off + j, none⟩ = some (.int .i64 d) := by
                rw [hd, World.cell?_alloc_past _ _ _ hg]; exact hc j (by omega)
              have hjl : j < l.length := by omega
              by_cases h4 : d = c
              · have HO := Lib.hid (hO.out.round (okAt_same hcc hcneg hj (by omega) (by rw [← hd, h4])))
                subst h4
                have h5 : (d != d) = false := by simp
                clear hcc hc hO hi hd h2
                go_wp2
                go_round
                case rel => exact ⟨i + 1, by go_num, by omega, HO.out⟩
                case measure => simp only [intOf]; omega
              · have h5 : (d != c) = true := by simpa using h4
                have HR := Lib.hid (show V = false by rw [HV.out]; exact validB_bad h1 (okAt_other hcc hcneg hj (by rw [← hd]; exact h4)))
                clear hcc hc hO hi hd h2 h4 HV
                go_wp2
                go_ret
                exact ⟨ret_bool HR.out.symm, (Below.refl _ _).alloc (Nat.le_refl _) _⟩
        · have e : i = l.length := by omega
          have HR := Lib.hid (show V = true by rw [HV.out]; exact validB_true (by simpa using hp) (by rw [← e]; exact hO.out))
          clear e
          go_wp2
          go_ret
          exact ⟨ret_bool HR.out.symm, (Below.refl _ _).alloc (Nat.le_refl _) _⟩

set_option maxRecDepth 100000 in
set_option maxHeartbeats 1600000 in
theorem refValid_any (s : Shp) (v : Value) (w : World) (hv : IntsAt w w.heap.size v s.cells) (hi : I64s s.cells) (hn : s.cells.length ≤ 35184372088832) :
    Calls Try.prog 18 #[.agg #[.int .i64 s.pred, v]] w (BoolIs w (validB s)) := by
  obtain ⟨V, hV⟩ : ∃ V, V = validB s := ⟨_, rfl⟩
  rw [← hV]
  have HV := Lib.hid hV
  clear hV
  obtain ⟨p, l⟩ := s
  simp only at hv hi hn ⊢
  by_cases hp : p < 0
  · have HR := Lib.hid (show V = false by rw [HV.out]; exact validB_neg hp)
    obtain ⟨a, cap, rfl, h⟩ := hv
    clear h
    go_enter Try.func18, Try.ntmps18
    go_wp2
    go_ret
    exact ⟨ret_bool HR.out.symm, (Below.refl _ _).alloc (Nat.le_refl _) _⟩
  · obtain ⟨a, cap, rfl, h⟩ := hv
    rcases h with rfl | ⟨g, off, rfl, hg, hc⟩
    · have HR := Lib.hid (show V = true by rw [HV.out]; exact validB_true (by simpa using hp) (OkTo.start _))
      go_enter Try.func18, Try.ntmps18
      go_wp2
      refine wp_loop_rounds 1 ?_
      rw [rounds_succ]
      go_wp2
      go_ret
      exact ⟨ret_bool HR.out.symm, (Below.refl _ _).alloc (Nat.le_refl _) _⟩
    · go_enter Try.func18, Try.ntmps18
      go_wp2
      go_loop [3] (fun k => ∃ i : Nat, k = .int .i64 (i : Int) ∧ i ≤ l.length ∧ Hid (OkTo l i)) (fun k => l.length - (intOf k).toNat)
      case atStart => exact ⟨0, rfl, Nat.zero_le _, OkTo.start l⟩
      case round =>
        obtain ⟨i, rfl, hil, hO⟩ := hrel
        by_cases h1 : i < l.length
        · obtain ⟨c, hcc⟩ : ∃ c, c = at' l i := ⟨_, rfl⟩
          have hcb : -9223372036854775808 ≤ c ∧ c ≤ 9223372036854775807 := by rw [hcc]; exact hi i
          have hcell : (w.alloc (.cells #[.int .i64 p, .slice (some ⟨g, off, none⟩) l.length cap] 27)).cell? ⟨g, off + i, none⟩ = some (.int .i64 c) := by
            rw [hcc, World.cell?_alloc_past _ _ _ hg]; exact hc i h1
          by_cases h2 : 0 ≤ c
          · have HO := Lib.hid (hO.out.round (okAt_pos hcc h2))
            clear hcc hc hO hi
            go_wp2
            go_round
            case rel => exact ⟨i + 1, by go_num, by omega, HO.out⟩
            case measure => simp only [intOf]; omega
          · obtain ⟨j, hj⟩ : ∃ j : Nat, -1 - c = (j : Int) := ⟨(-1 - c).toNat, by omega⟩
            have hcneg : c < 0 := by omega
            by_cases h3 : i < j
            · have HR := Lib.hid (show V = false by rw [HV.out]; exact validB_bad h1 (okAt_far hcc hcneg hj h3))
              clear hcc hc hO hi HV h2
              go_wp2
              go_ret
              exact ⟨ret_bool HR.out.symm, (Below.refl _ _).alloc (Nat.le_refl _) _⟩
            · obtain ⟨d, hd⟩ : ∃ d, d = at' l j := ⟨_, rfl⟩
              have hcell2 : (w.alloc (.cells #[.int .i64 p, .slice (some ⟨g, off, none⟩) l.length cap] 27)).cell? ⟨g, off + j, none⟩ = some (.int .i64 d) := by
                rw [hd, World.cell?_alloc_past _ _ _ hg]; exact hc j (by omega)
              have hjl : j < l.length := by omega
              by_cases h4 : d = c
              · have HO := Lib.hid (hO.out.round (okAt_same hcc hcneg hj (by omega) (by rw [← hd, h4])))
                subst h4
                have h5 : (d != -1 - (j : Int)) = false := by simp; omega
                clear hcc hc hO hi hd h2
                go_wp2
                go_round
                case rel => exact ⟨i + 1, by go_num, by omega, HO.out⟩
                case measure => simp only [intOf]; omega
              · have h5 : (d != -1 - (j : Int)) = true := by simp; omega
                have HR := Lib.hid (show V = false by rw [HV.out]; exact validB_bad h1 (okAt_other hcc hcneg hj (by rw [← hd]; exact h4)))
                clear hcc hc hO hi hd h2 h4 HV
                go_wp2
                go_ret
                exact ⟨ret_bool HR.out.symm, (Below.refl _ _).alloc (Nat.le_refl _) _⟩
        · have e : i = l.length := by omega
          have HR := Lib.hid (show V = true by rw [HV.out]; exact validB_true (by simpa using hp) (by rw [← e]; exact hO.out))
          clear e
          go_wp2
          go_ret
          exact ⟨ret_bool HR.out.symm, (Below.refl _ _).alloc (Nat.le_refl _) _⟩

end Go.Proofs.Ytlandkindbmbfaa
/-
  The walks of edictlaw10.ints and edictref10.Same: each answers whether the two are the same. Conditions: the lists are of ints, fewer than 2^45.
-/
namespace Go.Proofs.Ytlandkindbmbfaa
open Go.RowKit Plain

theorem below_drewN {B n : Nat} {a w : World} (h : Below B a w) : Below B a (w.drewN n) := ⟨h.os, h.tape, h.output, h.size, h.block⟩

set_option maxRecDepth 100000 in
set_option maxHeartbeats 1600000 in
theorem ints_any (l m : List Int) (v u : Value) (w : World) (hv : IntsAt w w.heap.size v l) (hu : IntsAt w w.heap.size u m) (hl : l.length ≤ 35184372088832) (hm : m.length ≤ 35184372088832) :
    Calls Try.prog 21 #[v, u] w (BoolIs w (decide (l = m))) := by
  obtain ⟨V, hV⟩ : ∃ V, V = decide (l = m) := ⟨_, rfl⟩
  rw [← hV]
  have HV := Lib.hid hV
  clear hV
  obtain ⟨a, c, rfl, ha⟩ := hv
  obtain ⟨b, d, rfl, hb⟩ := hu
  by_cases hlm : l.length = m.length
  · rw [← hlm]
    rw [← hlm] at hb
    clear hm
    by_cases h0 : l = []
    · subst h0
      have hm0 : m = [] := List.length_eq_zero_iff.1 (by simpa using hlm.symm)
      subst hm0
      have HR := Lib.hid (show V = true by rw [HV.out]; rfl)
      clear ha hb hlm HV
      go_enter Try.func21, Try.ntmps21
      go_wp2
      refine wp_loop_rounds 1 ?_
      rw [rounds_succ]
      go_wp2
      go_ret
      exact ⟨ret_bool HR.out.symm, Below.refl _ _⟩
    · have h0' : m ≠ [] := fun e => h0 (List.length_eq_zero_iff.1 (by rw [hlm, e]; rfl))
      obtain ⟨g, off, rfl, hg, hc⟩ := ha.resolve_left h0
      obtain ⟨h, off2, rfl, hh, hd⟩ := hb.resolve_left h0'
      have HLM := Lib.hid hlm
      have hne : ((l.length : Int) != (l.length : Int)) = false := by simp
      clear ha hb h0 h0' hlm
      go_enter Try.func21, Try.ntmps21
      go_wp2
      clear hne
      go_loopw [5] (fun k wr => ∃ i : Nat, k = .int .i64 (i : Int) ∧ i ≤ l.length ∧ Below w.heap.size w wr ∧ Hid (EqTo l m i)) (fun k _ => l.length - (intOf k).toNat)
      case atStart => exact ⟨0, rfl, Nat.zero_le _, Below.refl _ _, EqTo.start l m⟩
      case round =>
        obtain ⟨i, rfl, hil, hnx, hE⟩ := hrel
        by_cases h1 : i < l.length
        · obtain ⟨x, hx⟩ : ∃ x, x = at' l i := ⟨_, rfl⟩
          obtain ⟨y, hy⟩ : ∃ y, y = at' m i := ⟨_, rfl⟩
          have hA : wr.cell? ⟨g, off + i, none⟩ = some (.int .i64 x) := by rw [hx]; exact (hnx.cell (p := ⟨g, off + i, none⟩) hg).trans (hc i h1)
          have hB : wr.cell? ⟨h, off2 + i, none⟩ = some (.int .i64 y) := by rw [hy]; exact (hnx.cell (p := ⟨h, off2 + i, none⟩) hh).trans (hd i h1)
          have h3 : (i : Int) < (l.length : Int) := by omega
          by_cases he : x = y
          · have HE := Lib.hid (hE.out.round hx hy he)
            have hb : (x != x) = false := by simp
            subst he
            clear hx hy hc hd hE
            go_wp2_with fail
            go_quiet (fail)
            generalize hW : wr.drewN _ = w2
            have hnx2 : Below w.heap.size w w2 := by rw [← hW]; exact below_drewN hnx
            clear hW hA hB hnx hb
            go_wp2
            go_roundw
            case rel => exact ⟨i + 1, by go_num, by omega, hnx2, HE.out⟩
            case measure => simp only [intOf]; omega
          · have HR := Lib.hid (show V = false by rw [HV.out]; exact decide_at hx hy he)
            have hb : (x != y) = true := by simpa using he
            clear hx hy hc hd hE he HV
            go_wp2_with fail
            go_quiet (fail)
            generalize hW : wr.drewN _ = w2
            have hnx2 : Below w.heap.size w w2 := by rw [← hW]; exact below_drewN hnx
            clear hW hA hB hnx
            go_wp2
            go_ret
            exact ⟨ret_bool HR.out.symm, hnx2⟩
        · have e : i = l.length := by omega
          have HR := Lib.hid (show V = true by rw [HV.out]; exact decide_eq_true (eq_of_at HLM.out (by rw [← e]; exact hE.out)))
          clear e
          go_wp2
          go_ret
          exact ⟨ret_bool HR.out.symm, hnx⟩
  · have HR := Lib.hid (show V = false by rw [HV.out]; exact decide_len hlm)
    have hne : ((l.length : Int) != (m.length : Int)) = true := by simp; omega
    clear ha hb hlm HV
    go_enter Try.func21, Try.ntmps21
    go_wp2
    go_ret
    exact ⟨ret_bool HR.out.symm, Below.refl _ _⟩

end Go.Proofs.Ytlandkindbmbfaa
/-
  Plain laws of shapes, on: which rows fit, which shape covers another, and that the loosest row of a shape decides. No program is in sight here; no condition beyond those that each lemma states.
-/
namespace Go.Proofs.Ytlandkindbmbfaa.Plain

theorem at_mem {l : List Int} {i : Nat} (h : i < l.length) : at' l i ∈ l := by
  unfold at'; rw [List.getElem?_eq_getElem h]; exact List.getElem_mem h
theorem at_push_old {l : List Int} {x : Int} {j : Nat} (h : j < l.length) : at' (l ++ [x]) j = at' l j := by
  unfold at'; rw [List.getElem?_append_left h]
theorem at_push_new (l : List Int) (x : Int) : at' (l ++ [x]) l.length = x := by
  unfold at'; simp

/-! ### Fits and Covers -/
def fitAt (c row : List Int) (i : Nat) : Bool := at' row i == (if at' c i < 0 then at' row (-1 - at' c i).toNat else at' c i)
def fitsB (s : Shp) (pred : Int) (row : List Int) : Bool := validB s && (decide (pred = s.pred) && (decide (row.length = s.cells.length) && (List.range row.length).all (fitAt s.cells row)))
def covAt (a b : List Int) (i : Nat) : Bool := at' b i == (if at' a i < 0 then at' b (-1 - at' a i).toNat else at' a i)
def coversB (a b : Shp) : Bool := validB a && (validB b && (decide (a.pred = b.pred) && (decide (a.cells.length = b.cells.length) && (List.range a.cells.length).all (covAt a.cells b.cells))))

def AllTo (f : Nat → Bool) (k : Nat) : Prop := ∀ i, i < k → f i = true
theorem AllTo.start (f : Nat → Bool) : AllTo f 0 := fun i h => by omega
theorem AllTo.round {f : Nat → Bool} {k : Nat} (h : AllTo f k) (hk : f k = true) : AllTo f (k + 1) := fun i hi => by
  by_cases e : i = k
  · subst e; exact hk
  · exact h i (by omega)
theorem all_bad {n : Nat} {f : Nat → Bool} {i : Nat} (hi : i < n) (h : f i = false) : (List.range n).all f = false := by
  rw [Bool.eq_false_iff]
  intro e
  rw [all_range.1 e i hi] at h
  cases h

theorem fitsB_invalid {s : Shp} {p : Int} {row : List Int} (h : validB s = false) : fitsB s p row = false := by unfold fitsB; rw [h]; rfl
theorem fitsB_pred {s : Shp} {p : Int} {row : List Int} (h : p ≠ s.pred) : fitsB s p row = false := by unfold fitsB; rw [decide_eq_false h]; simp
theorem fitsB_len {s : Shp} {p : Int} {row : List Int} (h : row.length ≠ s.cells.length) : fitsB s p row = false := by unfold fitsB; rw [decide_eq_false h]; simp
theorem fitsB_bad {s : Shp} {p : Int} {row : List Int} {i : Nat} (hi : i < row.length) (h : fitAt s.cells row i = false) : fitsB s p row = false := by unfold fitsB; rw [all_bad hi h]; simp
theorem fitsB_true {s : Shp} {p : Int} {row : List Int} (hv : validB s = true) (hp : p = s.pred) (hl : row.length = s.cells.length) (h : AllTo (fitAt s.cells row) row.length) : fitsB s p row = true := by
  unfold fitsB; rw [hv, decide_eq_true hp, decide_eq_true hl, all_range.2 h]; rfl
theorem fitAt_pos {c row : List Int} {i : Nat} {x y : Int} (hx : x = at' c i) (hy : y = at' row i) (h : 0 ≤ x) : fitAt c row i = (y == x) := by
  unfold fitAt; rw [← hx, ← hy, if_neg (by omega)]
theorem fitAt_neg {c row : List Int} {i j : Nat} {x y z : Int} (hx : x = at' c i) (hy : y = at' row i) (h : x < 0) (hj : -1 - x = (j : Int)) (hz : z = at' row j) : fitAt c row i = (y == z) := by
  unfold fitAt; rw [← hx, ← hy, if_pos h, hj, Int.toNat_natCast, ← hz]

theorem coversB_a {a b : Shp} (h : validB a = false) : coversB a b = false := by unfold coversB; rw [h]; rfl
theorem coversB_b {a b : Shp} (h : validB b = false) : coversB a b = false := by unfold coversB; rw [h]; simp
theorem coversB_pred {a b : Shp} (h : a.pred ≠ b.pred) : coversB a b = false := by unfold coversB; rw [decide_eq_false h]; simp
theorem coversB_len {a b : Shp} (h : a.cells.length ≠ b.cells.length) : coversB a b = false := by unfold coversB; rw [decide_eq_false h]; simp
theorem coversB_bad {a b : Shp} {i : Nat} (hi : i < a.cells.length) (h : covAt a.cells b.cells i = false) : coversB a b = false := by unfold coversB; rw [all_bad hi h]; simp
theorem coversB_true {a b : Shp} (ha : validB a = true) (hb : validB b = true) (hp : a.pred = b.pred) (hl : a.cells.length = b.cells.length) (h : AllTo (covAt a.cells b.cells) a.cells.length) : coversB a b = true := by
  unfold coversB; rw [ha, hb, decide_eq_true hp, decide_eq_true hl, all_range.2 h]; rfl
theorem covAt_pos {a b : List Int} {i : Nat} {x y : Int} (hx : x = at' a i) (hy : y = at' b i) (h : 0 ≤ x) : covAt a b i = (y == x) := by
  unfold covAt; rw [← hx, ← hy, if_neg (by omega)]
theorem covAt_neg {a b : List Int} {i j : Nat} {x y z : Int} (hx : x = at' a i) (hy : y = at' b i) (h : x < 0) (hj : -1 - x = (j : Int)) (hz : z = at' b j) : covAt a b i = (y == z) := by
  unfold covAt; rw [← hx, ← hy, if_pos h, hj, Int.toNat_natCast, ← hz]

/-- What validity says of each cell. -/
theorem valid_cell {s : Shp} (h : validB s = true) {i : Nat} (hi : i < s.cells.length) (hc : at' s.cells i < 0) :
    ∃ j : Nat, -1 - at' s.cells i = (j : Int) ∧ j ≤ i ∧ at' s.cells j = at' s.cells i := by
  unfold validB at h
  rw [Bool.and_eq_true] at h
  have := all_range.1 h.2 i hi
  unfold okAt at this
  rw [decide_eq_false (show ¬ 0 ≤ at' s.cells i by omega), Bool.false_or, Bool.and_eq_true] at this
  refine ⟨(-1 - at' s.cells i).toNat, by omega, by simpa using this.1, by simpa using this.2⟩
theorem valid_pred {s : Shp} (h : validB s = true) : 0 ≤ s.pred := by
  unfold validB at h
  rw [Bool.and_eq_true] at h
  simpa using h.1

/-! ### The loosest row -/
structure Loose (a b row : List Int) (next : Int) : Prop where
  const : ∀ j, j < row.length → 0 ≤ at' b j → at' row j = at' b j
  copy : ∀ j, j < row.length → at' b j < 0 → (-1 - at' b j).toNat < j → at' row j = at' row (-1 - at' b j).toNat
  fresh : ∀ j : Nat, j < row.length → at' b j = -1 - (j : Int) → at' row j < next ∧ ¬ at' row j ∈ a ∧ ¬ at' row j ∈ b
  apart : ∀ j k : Nat, j < k → k < row.length → at' b j = -1 - (j : Int) → at' b k = -1 - (k : Int) → at' row j ≠ at' row k
theorem Loose.start (a b : List Int) (n : Int) : Loose a b [] n := ⟨fun j h => by simp at h, fun j h => by simp at h, fun j h => by simp at h, fun j k _ h => by simp at h⟩
theorem Loose.next {a b row : List Int} {n n' : Int} (h : Loose a b row n) (hn : n ≤ n') : Loose a b row n' :=
  ⟨h.const, h.copy, fun j hj e => ⟨by have := (h.fresh j hj e).1; omega, (h.fresh j hj e).2⟩, h.apart⟩
theorem push_cases {row : List Int} {x : Int} {j : Nat} (h : j < (row ++ [x]).length) : j < row.length ∨ j = row.length := by
  rw [List.length_append] at h; simp at h; omega
theorem Loose.round_const {a b row : List Int} {n x : Int} (h : Loose a b row n) (hx : x = at' b row.length) (h0 : 0 ≤ x) : Loose a b (row ++ [x]) n := by
  refine ⟨fun j hj e => ?_, fun j hj e e2 => ?_, fun j hj e => ?_, fun j k hjk hk e1 e2 => ?_⟩
  · rcases push_cases hj with hj | rfl
    · rw [at_push_old hj]; exact h.const j hj e
    · rw [at_push_new, hx]
  · rcases push_cases hj with hj | rfl
    · rw [at_push_old hj, at_push_old (by omega)]; exact h.copy j hj e e2
    · omega
  · rcases push_cases hj with hj | rfl
    · rw [at_push_old hj]; exact h.fresh j hj e
    · omega
  · rcases push_cases hk with hk | rfl
    · rw [at_push_old hk, at_push_old (by omega)]; exact h.apart j k hjk hk e1 e2
    · omega
theorem Loose.round_copy {a b row : List Int} {n c x : Int} {k : Nat} (h : Loose a b row n) (hc : c = at' b row.length) (h0 : c < 0) (hk : -1 - c = (k : Int)) (hk2 : k < row.length) (hx : x = at' row k) : Loose a b (row ++ [x]) n := by
  have hkk : (-1 - at' b row.length).toNat = k := by rw [← hc, hk, Int.toNat_natCast]
  refine ⟨fun j hj e => ?_, fun j hj e e2 => ?_, fun j hj e => ?_, fun j k hjk hk e1 e2 => ?_⟩
  · rcases push_cases hj with hj | rfl
    · rw [at_push_old hj]; exact h.const j hj e
    · omega
  · rcases push_cases hj with hj | rfl
    · rw [at_push_old hj, at_push_old (by omega)]; exact h.copy j hj e e2
    · rw [at_push_new, hkk, at_push_old hk2, hx]
  · rcases push_cases hj with hj | rfl
    · rw [at_push_old hj]; exact h.fresh j hj e
    · omega
  · rcases push_cases hk with hk | rfl
    · rw [at_push_old hk, at_push_old (by omega)]; exact h.apart j k hjk hk e1 e2
    · omega
theorem Loose.round_fresh {a b row : List Int} {n c : Int} (h : Loose a b row n) (hc : c = at' b row.length) (h0 : c = -1 - (row.length : Int)) (ha : ¬ n ∈ a) (hb : ¬ n ∈ b) : Loose a b (row ++ [n]) (n + 1) := by
  refine ⟨fun j hj e => ?_, fun j hj e e2 => ?_, fun j hj e => ?_, fun j k hjk hk e1 e2 => ?_⟩
  · rcases push_cases hj with hj | rfl
    · rw [at_push_old hj]; exact h.const j hj e
    · omega
  · rcases push_cases hj with hj | rfl
    · rw [at_push_old hj, at_push_old (by omega)]; exact h.copy j hj e e2
    · omega
  · rcases push_cases hj with hj | rfl
    · rw [at_push_old hj]; have := h.fresh j hj e; exact ⟨by omega, this.2⟩
    · rw [at_push_new]; exact ⟨by omega, ha, hb⟩
  · rcases push_cases hk with hk | rfl
    · rw [at_push_old hk, at_push_old (by omega)]; exact h.apart j k hjk hk e1 e2
    · rw [at_push_new, at_push_old hjk]; have := (h.fresh j hjk e1).1; omega

/-- Each place of the whole row: a constant of the shape, or its root's fresh number. -/
theorem Loose.root {a row : List Int} {b : Shp} {n : Int} (h : Loose a b.cells row n) (hl : row.length = b.cells.length) (hv : validB b = true) {i : Nat} (hi : i < b.cells.length) :
    (0 ≤ at' b.cells i ∧ at' row i = at' b.cells i) ∨ ∃ k : Nat, k < b.cells.length ∧ at' b.cells i = -1 - (k : Int) ∧ at' b.cells k = -1 - (k : Int) ∧ at' row i = at' row k := by
  by_cases h0 : 0 ≤ at' b.cells i
  · exact .inl ⟨h0, h.const i (by omega) h0⟩
  · obtain ⟨k, hk, hki, hkc⟩ := valid_cell hv hi (by omega)
    refine .inr ⟨k, by omega, by omega, by omega, ?_⟩
    by_cases e : k = i
    · rw [e]
    · have := h.copy i (by omega) (by omega) (by omega)
      rw [this]; congr 1; omega
theorem Loose.same {a row : List Int} {b : Shp} {n : Int} (h : Loose a b.cells row n) (hl : row.length = b.cells.length) (hv : validB b = true) {i j : Nat} (hi : i < b.cells.length) (hj : j < b.cells.length) :
    at' row i = at' row j ↔ at' b.cells i = at' b.cells j := by
  rcases h.root hl hv hi with ⟨p0, p1⟩ | ⟨k, k1, k2, k3, k4⟩ <;> rcases h.root hl hv hj with ⟨q0, q1⟩ | ⟨m, m1, m2, m3, m4⟩
  · rw [p1, q1]
  · rw [p1, m4]
    refine ⟨fun e => absurd (at_mem hi) ?_, fun e => by omega⟩
    rw [e]; exact (h.fresh m (by omega) m3).2.2
  · rw [q1, k4]
    refine ⟨fun e => absurd (at_mem hj) ?_, fun e => by omega⟩
    rw [← e]; exact (h.fresh k (by omega) k3).2.2
  · rw [k4, m4]
    refine ⟨fun e => ?_, fun e => by rw [show k = m by omega]⟩
    rcases Nat.lt_trichotomy k m with hh | hh | hh
    · exact absurd e (h.apart k m hh (by omega) k3 m3)
    · omega
    · exact absurd e.symm (h.apart m k hh (by omega) m3 k3)
theorem Loose.is {a row : List Int} {b : Shp} {n : Int} (h : Loose a b.cells row n) (hl : row.length = b.cells.length) (hv : validB b = true) {j : Nat} (hj : j < b.cells.length) {c : Int} (h0 : 0 ≤ c) (hc : c ∈ a) :
    at' row j = c ↔ at' b.cells j = c := by
  rcases h.root hl hv hj with ⟨q0, q1⟩ | ⟨m, m1, m2, m3, m4⟩
  · rw [q1]
  · rw [m4]
    refine ⟨fun e => absurd hc ?_, fun e => by omega⟩
    rw [← e]; exact (h.fresh m (by omega) m3).2.1

/-- The loosest row of b fits a just if a covers b. -/
theorem Loose.decides {a b : Shp} {row : List Int} {n : Int} (h : Loose a.cells b.cells row n) (hl : row.length = b.cells.length) (ha : validB a = true) (hb : validB b = true) :
    fitsB a b.pred row = coversB a b := by
  by_cases hp : b.pred = a.pred
  · by_cases hlen : row.length = a.cells.length
    · have hlen2 : a.cells.length = b.cells.length := by omega
      have hat : ∀ i, i < row.length → (fitAt a.cells row i = true ↔ covAt a.cells b.cells i = true) := by
        intro i hi
        unfold fitAt covAt
        by_cases h0 : at' a.cells i < 0
        · obtain ⟨k, hk, hki, _⟩ := valid_cell ha (show i < a.cells.length by omega) h0
          rw [if_pos h0, if_pos h0, hk, Int.toNat_natCast, beq_iff_eq, beq_iff_eq]
          exact h.same hl hb (by omega) (by omega)
        · rw [if_neg h0, if_neg h0, beq_iff_eq, beq_iff_eq]
          exact h.is hl hb (by omega) (by omega) (at_mem (by omega))
      unfold fitsB coversB
      rw [ha, hb, decide_eq_true hp, decide_eq_true hp.symm, decide_eq_true hlen, decide_eq_true hlen2, Bool.true_and, Bool.true_and, Bool.true_and, Bool.true_and, Bool.true_and, Bool.true_and, Bool.true_and]
      rw [Bool.eq_iff_iff, all_range, all_range]
      exact ⟨fun e i hi => (hat i (by omega)).1 (e i (by omega)), fun e i hi => (hat i (by omega)).2 (e i (by omega))⟩
    · rw [fitsB_len hlen, coversB_len (by omega)]
  · rw [fitsB_pred hp, coversB_pred (fun e => hp e.symm)]

/-! ### How far the fresh numbers go -/
def cb : List Int → Int → Nat
  | [], _ => 0
  | x :: l, k => (if 0 ≤ x ∧ x < k then 1 else 0) + cb l k
theorem cb_le (l : List Int) (k : Int) : cb l k ≤ l.length := by
  induction l with
  | nil => exact Nat.le_refl _
  | cons x l ih => unfold cb; rw [List.length_cons]; split <;> omega
theorem cb_up (l : List Int) (k : Int) : cb l k ≤ cb l (k + 1) := by
  induction l with
  | nil => exact Nat.le_refl _
  | cons x l ih =>
    unfold cb
    by_cases h : 0 ≤ x ∧ x < k
    · rw [if_pos h, if_pos (by omega)]; omega
    · rw [if_neg h]; omega
theorem cb_mem {l : List Int} {k : Int} (h0 : 0 ≤ k) (h : k ∈ l) : cb l k + 1 ≤ cb l (k + 1) := by
  induction l with
  | nil => simp at h
  | cons x l ih =>
    unfold cb
    by_cases e : k = x
    · have := cb_up l k
      rw [if_neg (by omega), if_pos (by omega)]; omega
    · have := ih (by simpa [e] using h)
      by_cases hx : 0 ≤ x ∧ x < k
      · rw [if_pos hx, if_pos (by omega)]; omega
      · rw [if_neg hx]; omega

/-- The next number is not farther than what lies below it. -/
def Near (a b : List Int) (m n : Nat) : Prop := n ≤ m + cb a n + cb b n
theorem Near.start (a b : List Int) : Near a b 0 0 := Nat.zero_le _
theorem Near.le {a b : List Int} {m n : Nat} (h : Near a b m n) : n ≤ m + a.length + b.length := by
  have := cb_le a n; have := cb_le b n; unfold Near at h; omega
theorem Near.row {a b : List Int} {m n : Nat} (h : Near a b m n) : Near a b (m + 1) n := by unfold Near at *; omega
theorem Near.skip {a b : List Int} {m n : Nat} (h : Near a b m n) (hn : (n : Int) ∈ a ∨ (n : Int) ∈ b) : Near a b m (n + 1) := by
  unfold Near at *
  rw [show ((n + 1 : Nat) : Int) = (n : Int) + 1 by omega]
  have h1 := cb_up a n
  have h2 := cb_up b n
  rcases hn with hn | hn
  · have := cb_mem (by omega) hn; omega
  · have := cb_mem (by omega) hn; omega
theorem Near.took {a b : List Int} {m n : Nat} (h : Near a b m n) : Near a b (m + 1) (n + 1) := by
  unfold Near at *
  rw [show ((n + 1 : Nat) : Int) = (n : Int) + 1 by omega]
  have h1 := cb_up a n
  have h2 := cb_up b n
  omega

/-! ### Is it there? -/
def NotTo (l : List Int) (n : Int) (k : Nat) : Prop := ∀ j, j < k → at' l j ≠ n
theorem NotTo.start (l : List Int) (n : Int) : NotTo l n 0 := fun j h => by omega
theorem NotTo.round {l : List Int} {n x : Int} {k : Nat} (h : NotTo l n k) (hx : x = at' l k) (e : x ≠ n) : NotTo l n (k + 1) := fun j hj => by
  by_cases ej : j = k
  · subst ej; rw [← hx]; exact e
  · exact h j (by omega)
theorem decide_mem {l : List Int} {n x : Int} {k : Nat} (hk : k < l.length) (hx : x = at' l k) (e : x = n) : decide (n ∈ l) = true := decide_eq_true (by rw [← e, hx]; exact at_mem hk)
theorem decide_not {l : List Int} {n : Int} (h : NotTo l n l.length) : decide (n ∈ l) = false := decide_eq_false fun e => by
  obtain ⟨i, hi, he⟩ := List.getElem_of_mem e
  refine h i hi ?_
  unfold at'; rw [List.getElem?_eq_getElem hi]; exact he

/-! ### Two shapes the same -/
def sameB (s t : Shp) : Bool := decide (s.pred = t.pred) && decide (s.cells = t.cells)
theorem sameB_pred {s t : Shp} (h : s.pred ≠ t.pred) : sameB s t = false := by unfold sameB; rw [decide_eq_false h]; rfl
theorem sameB_len {s t : Shp} (h : s.cells.length ≠ t.cells.length) : sameB s t = false := by unfold sameB; rw [decide_len h]; simp
theorem sameB_at {s t : Shp} {k : Nat} {x y : Int} (hx : x = at' s.cells k) (hy : y = at' t.cells k) (e : x ≠ y) : sameB s t = false := by unfold sameB; rw [decide_at hx hy e]; simp
theorem sameB_true {s t : Shp} (hp : s.pred = t.pred) (hl : s.cells.length = t.cells.length) (h : EqTo s.cells t.cells s.cells.length) : sameB s t = true := by
  unfold sameB; rw [decide_eq_true hp, decide_eq_true (eq_of_at hl h)]; rfl

end Go.Proofs.Ytlandkindbmbfaa.Plain
/-
  The walks of edictref10.Same and edictref10.within: whether two shapes are the same, whether a number stands in a list. Conditions: the cells are ints, fewer than 2^45.
-/
namespace Go.Proofs.Ytlandkindbmbfaa
open Go.RowKit Plain

/-- A value that reads as the shape s, its cells below block B. -/
def ShpAt (w : World) (B : Nat) (x : Value) (s : Shp) : Prop := ∃ v, x = .agg #[.int .i64 s.pred, v] ∧ IntsAt w B v s.cells
/-- The shape's numbers are ints, and it is no longer than memory allows. -/
structure Okay (s : Shp) : Prop where
  low : -9223372036854775808 ≤ s.pred
  high : s.pred ≤ 9223372036854775807
  ints : I64s s.cells
  len : s.cells.length ≤ 35184372088832

set_option maxRecDepth 100000 in
set_option maxHeartbeats 1600000 in
theorem within_any (l : List Int) (n : Int) (v : Value) (w : World) (hv : IntsAt w w.heap.size v l) (hl : l.length ≤ 35184372088832) :
    Calls Try.prog 62 #[v, .int .i64 n] w fun e w' => e = .returned (.bool (decide (n ∈ l))) ∧ w = w' := by
  obtain ⟨V, hV⟩ : ∃ V, V = decide (n ∈ l) := ⟨_, rfl⟩
  rw [← hV]
  have HV := Lib.hid hV
  clear hV
  obtain ⟨a, c, rfl, ha⟩ := hv
  have HA := Lib.hid ha
  clear ha
  go_enter Try.func62, Try.ntmps62
  go_wp2
  go_loop [5] (fun k => ∃ i : Nat, k = .int .i64 (i : Int) ∧ i ≤ l.length ∧ Hid (NotTo l n i)) (fun k => l.length - (intOf k).toNat)
  case atStart => exact ⟨0, rfl, Nat.zero_le _, NotTo.start l n⟩
  case round =>
    obtain ⟨i, rfl, hil, hE⟩ := hrel
    by_cases h1 : i < l.length
    · obtain ⟨g, off, rfl, hg, hc⟩ := HA.out.resolve_left (fun e => by rw [e] at h1; simp at h1)
      obtain ⟨x, hx⟩ : ∃ x, x = at' l i := ⟨_, rfl⟩
      have hA : w.cell? ⟨g, off + i, none⟩ = some (.int .i64 x) := by rw [hx]; exact hc i h1
      have h3 : (i : Int) < (l.length : Int) := by omega
      clear hc hg HA
      by_cases he : x = n
      · have HR := Lib.hid (show V = true by rw [HV.out]; exact decide_mem h1 hx he)
        subst he
        clear hx hE HV
        go_wp2
        go_ret
        exact ⟨ret_bool HR.out.symm, rfl⟩
      · have HE := Lib.hid (hE.out.round hx he)
        have hb : (x == n) = false := by simpa using he
        clear hx hE he
        go_wp2
        go_round
        case rel => exact ⟨i + 1, by go_num, by omega, HE.out⟩
        case measure => simp only [intOf]; omega
    · have e : i = l.length := by omega
      have HR := Lib.hid (show V = false by rw [HV.out]; exact decide_not (by rw [← e]; exact hE.out))
      clear e
      go_wp2
      go_ret
      exact ⟨ret_bool HR.out.symm, rfl⟩

theorem below_cells {w w' : World} {B : Nat} (h : Below B w w') {p : Addr} {v : Value} (hp : p.block < B) (hc : w.cell? p = some v) : w'.cell? p = some v := (h.cell hp).trans hc

set_option maxRecDepth 100000 in
set_option maxHeartbeats 1600000 in
theorem refSame_any (s t : Shp) (x y : Value) (w : World) (hx : ShpAt w w.heap.size x s) (hy : ShpAt w w.heap.size y t) (hs : Okay s) (ht : Okay t) :
    Calls Try.prog 27 #[x, y] w (BoolIs w (sameB s t)) := by
  obtain ⟨V, hV⟩ : ∃ V, V = sameB s t := ⟨_, rfl⟩
  rw [← hV]
  have HV := Lib.hid hV
  clear hV
  obtain ⟨vl, rfl, a, ca, rfl, ha⟩ := hx
  obtain ⟨vm, rfl, b, cb, rfl, hb⟩ := hy
  have HA := Lib.hid ha
  have HB := Lib.hid hb
  have hls := hs.len
  have hlt := ht.len
  clear ha hb hs ht
  by_cases hp : s.pred = t.pred
  · by_cases hl : s.cells.length = t.cells.length
    · have hpn : (s.pred != t.pred) = false := by simp [hp]
      have hln : ((s.cells.length : Int) != (s.cells.length : Int)) = false := by simp
      have HP := Lib.hid hp
      have HL := Lib.hid hl
      rw [← hl] at hlt ⊢
      clear hp hl
      go_enter Try.func27, Try.ntmps27
      go_wp2
      clear hpn hln
      generalize hW0 : (w.alloc (.cells #[.int .i64 s.pred, .slice a s.cells.length ca] 27)).alloc (.cells #[.int .i64 t.pred, .slice b s.cells.length cb] 27) = W0
      have hz0 : W0.heap.size = w.heap.size + 2 := by rw [← hW0]; simp
      have hb0 : Below w.heap.size w W0 := by rw [← hW0]; exact ((Below.refl _ _).alloc (Nat.le_refl _) _).alloc (by simp) _
      have cx : W0.cell? ⟨w.heap.size, 1, none⟩ = some (.slice a s.cells.length ca) := by rw [← hW0]; simp
      have cy : W0.cell? ⟨w.heap.size + 1, 1, none⟩ = some (.slice b s.cells.length cb) := by rw [← hW0]; simp
      have CX := Lib.hid cx
      have CY := Lib.hid cy
      have HB0 := Lib.hid hb0
      clear hW0 hb0 cx cy
      go_loopw [5] (fun k wr => ∃ i : Nat, k = .int .i64 (i : Int) ∧ i ≤ s.cells.length ∧ Below (w.heap.size + 2) W0 wr ∧ Hid (EqTo s.cells t.cells i)) (fun k _ => s.cells.length - (intOf k).toNat)
      case atStart => exact ⟨0, rfl, Nat.zero_le _, Below.refl _ _, EqTo.start _ _⟩
      case round =>
        obtain ⟨i, rfl, hil, hnx, hE⟩ := hrel
        have c1 : wr.cell? ⟨w.heap.size, 1, none⟩ = some (.slice a s.cells.length ca) := below_cells hnx (by simp) CX.out
        have c2 : wr.cell? ⟨w.heap.size + 1, 1, none⟩ = some (.slice b s.cells.length cb) := below_cells hnx (by simp) CY.out
        have NX := Lib.hid hnx
        clear hnx
        by_cases h1 : i < s.cells.length
        · obtain ⟨g, off, rfl, hg, hc⟩ := HA.out.resolve_left (fun e => by rw [e] at h1; simp at h1)
          obtain ⟨g2, off2, rfl, hg2, hd⟩ := HB.out.resolve_left (fun e => by rw [HL.out, e] at h1; simp at h1)
          obtain ⟨x, hx⟩ : ∃ x, x = at' s.cells i := ⟨_, rfl⟩
          obtain ⟨y, hy⟩ : ∃ y, y = at' t.cells i := ⟨_, rfl⟩
          have hA : wr.cell? ⟨g, off + i, none⟩ = some (.int .i64 x) := by
            rw [hx]; exact below_cells NX.out (by simp; omega) (below_cells HB0.out (by simpa using hg) (hc i h1))
          have hB : wr.cell? ⟨g2, off2 + i, none⟩ = some (.int .i64 y) := by
            rw [hy]; exact below_cells NX.out (by simp; omega) (below_cells HB0.out (by simpa using hg2) (hd i (by rw [← HL.out]; exact h1)))
          clear hc hd hg hg2 HA HB
          by_cases he : x = y
          · have HE := Lib.hid (hE.out.round hx hy he)
            have hb : (x != x) = false := by simp
            subst he
            clear hx hy hE
            go_wp2_with fail
            go_quiet (fail)
            generalize hW : wr.drewN _ = w2
            have hnx2 : Below (w.heap.size + 2) W0 w2 := by rw [← hW]; exact below_drewN NX.out
            clear hW hA hB hb NX
            go_wp2
            go_roundw
            case rel => exact ⟨i + 1, by go_num, by omega, hnx2, HE.out⟩
            case measure => simp only [intOf]; omega
          · have HR := Lib.hid (show V = false by rw [HV.out]; exact sameB_at hx hy he)
            have hb : (x != y) = true := by simpa using he
            clear hx hy hE he HV
            go_wp2_with fail
            go_quiet (fail)
            generalize hW : wr.drewN _ = w2
            have hnx2 : Below (w.heap.size + 2) W0 w2 := by rw [← hW]; exact below_drewN NX.out
            clear hW hA hB NX
            go_wp2
            go_ret
            exact ⟨ret_bool HR.out.symm, HB0.out.trans (hnx2.mono (by omega))⟩
        · have e : i = s.cells.length := by omega
          have HR := Lib.hid (show V = true by rw [HV.out]; exact sameB_true HP.out HL.out (by rw [← e]; exact hE.out))
          clear e
          go_wp2
          go_ret
          exact ⟨ret_bool HR.out.symm, HB0.out.trans (NX.out.mono (by omega))⟩
    · have hpn : (s.pred != t.pred) = false := by simp [hp]
      have hln : ((s.cells.length : Int) != (t.cells.length : Int)) = true := by simp; omega
      have HR := Lib.hid (show V = false by rw [HV.out]; exact sameB_len hl)
      clear hp hl HV
      go_enter Try.func27, Try.ntmps27
      go_wp2
      go_ret
      exact ⟨ret_bool HR.out.symm, ((Below.refl _ _).alloc (Nat.le_refl _) _).alloc (by simp) _⟩
  · have hpn : (s.pred != t.pred) = true := by simpa using hp
    have HR := Lib.hid (show V = false by rw [HV.out]; exact sameB_pred hp)
    clear hp HV
    go_enter Try.func27, Try.ntmps27
    go_wp2
    go_ret
    exact ⟨ret_bool HR.out.symm, ((Below.refl _ _).alloc (Nat.le_refl _) _).alloc (by simp) _⟩

end Go.Proofs.Ytlandkindbmbfaa
