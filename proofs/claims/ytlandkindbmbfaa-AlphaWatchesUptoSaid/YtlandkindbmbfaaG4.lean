/-
  Texts of this seat, one behind the other: W9, K4. Conditions: those that each of them states.
-/
import Derived.Test.YtlandkindbmbfaaG3
import Derived.Deep.RegionLaw
/-
  The walk of alpha.Shape: the pattern's shape, its cells a list of the call's own. Conditions: the numbers are ints, the list is within the form's own reach.
-/
namespace Go.Proofs.Ytlandkindbmbfaa
open Go.RowKit Plain
attribute [local go_sem ↓] Go.wp_at_zero Go.wp_at_succ

/-! ### What the map holds -/
def MapIs (l : List Slt) (i : Nat) (D : DataW Unit) : Prop :=
  Go.Maps.IsMap D ∧ ∀ n : Int, Go.Maps.has D (.int .i64 n) = decide (firstV l n < i) ∧ (firstV l n < i → D.atKey (.int .i64 n) (.lit (.int .i64 0)) = .lit (.int .i64 (firstV l n : Int)))
theorem MapIs.start (l : List Slt) : MapIs l 0 (.map []) := ⟨Go.Maps.isMap_empty, fun n => ⟨rfl, fun h => by omega⟩⟩
theorem MapIs.const {l : List Slt} {i : Nat} {D : DataW Unit} {c : Int} (h : MapIs l i D) (hi : l[i]? = some (false, c)) : MapIs l (i + 1) D := by
  refine ⟨h.1, fun n => ?_⟩
  have hne := firstV_ne (n := n) hi (by simp)
  obtain ⟨h1, h2⟩ := h.2 n
  exact ⟨by rw [h1]; congr 1; simp; omega, fun hlt => h2 (by omega)⟩
theorem MapIs.old {l : List Slt} {i : Nat} {D : DataW Unit} {n : Int} (h : MapIs l i D) (hi : l[i]? = some (true, n)) (ho : firstV l n < i) : MapIs l (i + 1) D := by
  refine ⟨h.1, fun m => ?_⟩
  have hne : firstV l m ≠ i := by
    by_cases e : m = n
    · subst e; omega
    · exact firstV_ne hi (by simp; omega)
  obtain ⟨h1, h2⟩ := h.2 m
  exact ⟨by rw [h1]; congr 1; simp; omega, fun hlt => h2 (by omega)⟩
theorem MapIs.new {l : List Slt} {i : Nat} {D : DataW Unit} {n : Int} (h : MapIs l i D) (hi : l[i]? = some (true, n)) (ho : ¬ firstV l n < i) : MapIs l (i + 1) (D.put (.int .i64 n) (.lit (.int .i64 (i : Int)))) := by
  have hf : firstV l n = i := by have := firstV_le hi; omega
  refine ⟨h.1.put _ _, fun m => ?_⟩
  by_cases e : m = n
  · subst e
    rw [Go.Maps.has_put_same h.1 (show WideAt.IsKeyLit (.int .i64 m) from trivial), Go.Maps.atKey_put_same h.1 (show WideAt.IsKeyLit (.int .i64 m) from trivial), hf]
    exact ⟨by simp, fun _ => rfl⟩
  · have hne : firstV l m ≠ i := firstV_ne hi (by simp; omega)
    have hk : (Lit.int .i64 m) ≠ (Lit.int .i64 n) := by simp [e]
    rw [Go.Maps.has_put_other hk, Go.Maps.atKey_put_other hk]
    obtain ⟨h1, h2⟩ := h.2 m
    exact ⟨by rw [h1]; congr 1; simp; omega, fun hlt => h2 (by omega)⟩

/-! ### The state of the loop -/
structure AS (w : World) (p : Int) (l : List Slt) (i : Nat) (c : List Int) (v : Value) (wr : World) : Prop where
  below : Below w.heap.size w wr
  size : w.heap.size + 5 ≤ wr.heap.size
  res : wr.heap[w.heap.size + 1]? = some (.cells #[.int .i64 0, .slice none 0 0] 27 (0, 0))
  non : wr.heap[w.heap.size + 2]? = some (.cells #[.int .i64 (-1), .slice none 0 0] 27 (0, 0))
  var : wr.heap[w.heap.size + 3]? = some (.cells #[.int .i64 p, v] 27 (0, 0))
  own : wr.ownsRow (w.heap.size + 5) 3 1 v c.length (lits c)
  map : ∃ D : DataW Unit, wr.ownsMap Try.prog 3 (plainElem Try.prog 3) (w.heap.size + 4) i D ∧ MapIs l i D
section
variable {w wr w1 : World} {p : Int} {l : List Slt} {i : Nat} {c : List Int} {v v' : Value} {x : Int}
theorem AS.alloc (h : AS w p l i c v wr) (o : Obj) : AS w p l i c v (wr.alloc o) := by
  have hz := h.size
  have hg := World.grownBy_alloc wr o none
  obtain ⟨D, hD, hM⟩ := h.map
  exact ⟨h.below.alloc (by omega) o, by simp; omega, (hg.block _ (by omega) (by simp)).trans h.res, (hg.block _ (by omega) (by simp)).trans h.non, (hg.block _ (by omega) (by simp)).trans h.var, h.own.alloc o, D, hD.alloc o, hM⟩
theorem AS.heap (h : AS w p l i c v wr) (e : w1.heap = wr.heap) (eo : w1.os = wr.os) (et : w1.tape = wr.tape) (ep : w1.output = wr.output) : AS w p l i c v w1 := by
  obtain ⟨D, hD, hM⟩ := h.map
  refine ⟨⟨eo.trans h.below.os, et.trans h.below.tape, ep.trans h.below.output, by rw [e]; exact h.below.size, by rw [e]; exact h.below.block⟩, by rw [e]; exact h.size, by rw [e]; exact h.res, by rw [e]; exact h.non, by rw [e]; exact h.var, ?_, D, ?_, hM⟩
  · have := h.own; unfold World.ownsRow at *; rw [e]; exact this
  · obtain ⟨es, ck, hb, r⟩ := hD; exact ⟨es, ck, by rw [e]; exact hb, r⟩
theorem AS.cvar (h : AS w p l i c v wr) : wr.cell? ⟨w.heap.size + 3, 1, none⟩ = some v := by have := h.var; simp [World.cell?, this]
theorem AS.fvar (h : AS w p l i c v wr) : wr.frozen? ⟨w.heap.size + 3, 1, none⟩ = false := by have := h.var; simp [World.frozen?, this]
theorem own_ge {B : Nat} {n : Nat} {xs : List Value} {e : TypeId} {size : Nat} (h : wr.ownsRow B e size v n xs) {k : Nat} (hk : k < B) : some k ≠ v.ownBlock := by
  intro e; have := (h.lt k e.symm).1; omega
/-- Behind the append. -/
theorem AS.grown (h : AS w p l i c v wr) (hg : wr.grownBy w1 v.ownBlock) : w1.heap[w.heap.size + 3]? = some (.cells #[.int .i64 p, v] 27 (0, 0)) :=
  (hg.block _ (by have := h.size; omega) (own_ge h.own (by omega))).trans h.var
theorem cvar_of (h : w1.heap[w.heap.size + 3]? = some (.cells #[.int .i64 p, v] 27 (0, 0))) : w1.cell? ⟨w.heap.size + 3, 1, none⟩ = some v := by simp [World.cell?, h]
theorem fvar_of (h : w1.heap[w.heap.size + 3]? = some (.cells #[.int .i64 p, v] 27 (0, 0))) : w1.frozen? ⟨w.heap.size + 3, 1, none⟩ = false := by simp [World.frozen?, h]
/-- Behind the append and the store of what it gave. -/
theorem AS.push (h : AS w p l i c v wr) (hown' : w1.ownsRow (w.heap.size + 5) 3 1 v' (c.length + 1) (lits c ++ [.int .i64 x])) (hg : wr.grownBy w1 v.ownBlock) :
    AS w p l i (c ++ [x]) v' (w1.setCell ⟨w.heap.size + 3, 1, none⟩ v') := by
  have hz := h.size
  obtain ⟨D, hD, hM⟩ := h.map
  refine ⟨(h.below.grown hg (by omega) (fun k hk => by have := (h.own.lt k hk).1; omega)).setCell (p := ⟨w.heap.size + 3, 1, none⟩) (show w.heap.size ≤ w.heap.size + 3 by omega) _, by have := hg.size; simp [World.setCell]; omega, ?_, ?_, ?_, ?_, D, ?_, hM⟩
  · rw [Below.heap_setCell _ _ _ _ (by simp)]; exact (hg.block _ (by omega) (own_ge h.own (by omega))).trans h.res
  · rw [Below.heap_setCell _ _ _ _ (by simp)]; exact (hg.block _ (by omega) (own_ge h.own (by omega))).trans h.non
  · exact block_setCell (h.grown hg)
  · have := ownsRow_setCell_below hown' (a := ⟨w.heap.size + 3, 1, none⟩) (show w.heap.size + 3 < w.heap.size + 5 by omega) v'
    rw [lits_snoc, List.length_append, List.length_singleton]; exact this
  · exact (hD.kept hg (own_ge h.own (by omega))).setCell (by simp) _
theorem AS.next (h : AS w p l i c v wr) (hm : ∀ D, MapIs l i D → MapIs l (i + 1) D) : AS w p l (i + 1) c v wr := by
  obtain ⟨D, hD, hM⟩ := h.map
  exact ⟨h.below, h.size, h.res, h.non, h.var, h.own, D, hD.mono (by omega), hm D hM⟩

theorem AS.start (w : World) (p : Int) (l : List Slt) (o : Obj) : AS w p l 0 [] (.slice none 0 0) (((((w.alloc o).alloc (.cells #[.int .i64 0, .slice none 0 0] 27)).alloc (.cells #[.int .i64 (-1), .slice none 0 0] 27)).alloc (.cells #[.int .i64 p, .slice none 0 0] 27)).alloc (.map #[] 0)) := by
  obtain ⟨w0, h0⟩ : ∃ w0, w0 = w.alloc o := ⟨_, rfl⟩
  obtain ⟨w1, h1⟩ : ∃ w1, w1 = w0.alloc (.cells #[.int .i64 0, .slice none 0 0] 27) := ⟨_, rfl⟩
  obtain ⟨w2, h2⟩ : ∃ w2, w2 = w1.alloc (.cells #[.int .i64 (-1), .slice none 0 0] 27) := ⟨_, rfl⟩
  obtain ⟨w3, h3⟩ : ∃ w3, w3 = w2.alloc (.cells #[.int .i64 p, .slice none 0 0] 27) := ⟨_, rfl⟩
  have z0 : w0.heap.size = w.heap.size + 1 := by rw [h0]; simp
  have z1 : w1.heap.size = w.heap.size + 2 := by rw [h1]; simp; omega
  have z2 : w2.heap.size = w.heap.size + 3 := by rw [h2]; simp; omega
  have z3 : w3.heap.size = w.heap.size + 4 := by rw [h3]; simp; omega
  rw [← h0, ← h1, ← h2, ← h3]
  have b0 : w1.heap[w.heap.size + 1]? = some (.cells #[.int .i64 0, .slice none 0 0] 27 (0, 0)) := by rw [h1, ← z0]; exact heap_alloc_new _ _
  have b1 : w2.heap[w.heap.size + 2]? = some (.cells #[.int .i64 (-1), .slice none 0 0] 27 (0, 0)) := by rw [h2, ← z1]; exact heap_alloc_new _ _
  have b2 : w3.heap[w.heap.size + 3]? = some (.cells #[.int .i64 p, .slice none 0 0] 27 (0, 0)) := by rw [h3, ← z2]; exact heap_alloc_new _ _
  have m := World.ownsMap_made w3 Try.prog 3 (plainElem (H := Unit) Try.prog 3)
  rw [z3] at m
  refine ⟨?_, by simp; omega, ?_, ?_, ?_, World.ownsRow_nil _ _ _ _, .map [], m, MapIs.start l⟩
  · rw [h3, h2, h1, h0]
    exact (((((Below.refl _ _).alloc (Nat.le_refl _) _).alloc (by simp) _).alloc (by simp; omega) _).alloc (by simp; omega) _).alloc (by simp; omega) _
  · rw [Below.heap_alloc _ _ _ (by omega), h3, Below.heap_alloc _ _ _ (by omega), h2, Below.heap_alloc _ _ _ (by omega)]; exact b0
  · rw [Below.heap_alloc _ _ _ (by omega), h3, Below.heap_alloc _ _ _ (by omega)]; exact b1
  · rw [Below.heap_alloc _ _ _ (by omega)]; exact b2

theorem AS.mapped {w2 : World} {D : DataW Unit} (h : AS w p l i c v wr) (hD : w2.ownsMap Try.prog 3 (plainElem Try.prog 3) (w.heap.size + 4) (i + 1) D) (hM : MapIs l (i + 1) D) (hg : wr.grownBy w2 (some (w.heap.size + 4))) : AS w p l (i + 1) c v w2 := by
  have hz := h.size
  refine ⟨h.below.grown hg (by omega) (fun k hk => by simp at hk; omega), by have := hg.size; omega, (hg.block _ (by omega) (by simp)).trans h.res, (hg.block _ (by omega) (by simp)).trans h.non, (hg.block _ (by omega) (by simp)).trans h.var, h.own.kept hg ?_, D, hD, hM⟩
  rcases hv : v.ownBlock with _ | k
  · exact .inl rfl
  · right; have := (h.own.lt k hv).1; simp; omega

end

theorem Try.zero3 (w : World) : (zeroValue 3).run Try.prog w = .ok (.int .i64 0) w := by kernel_rfl
theorem Try.law3 : Go.Maps.Keyed Try.prog 3 := Go.Maps.int_keyed Try.underlying3
theorem Try.size27 : (Try.prog.info? 27).map (·.size) = some 2 := by kernel_rfl
theorem wf_i64 {n : Int} (h : -9223372036854775808 ≤ n ∧ n ≤ 9223372036854775807) : (Lit.int .i64 n).wf = true := by
  have h1 : IntKind.i64.min = -9223372036854775808 := rfl
  have h2 : IntKind.i64.max = 9223372036854775807 := rfl
  simp only [Lit.wf, Bool.and_eq_true, decide_eq_true_eq]
  omega

set_option maxRecDepth 100000 in
set_option maxHeartbeats 3200000 in
theorem shape_big (p : Int) (l : List Slt) (v : Value) (w : World) (hv : SlotsAt w w.heap.size v l) (hl : I64l l) (hn : l.length ≤ 8796093022000) :
    Calls Try.prog 23 #[.agg #[.int .i64 p, v]] w (ShapeIs (shapeB p l) w) := by
  have hmm := @run_makeMap Try.prog
  obtain ⟨i3, qi, q0, q1, q2⟩ := info_parts Try.info3
  obtain ⟨a, cap, rfl, ha⟩ := hv.form
  have HV := Lib.hid hv
  have HA := Lib.hid ha
  clear hv ha
  by_cases hp : p < 0
  · have HR := Lib.hid (shapeB_neg (l := l) hp)
    go_enter Try.func23, Try.ntmps23
    go_wp2
    refine bodyPost_ret (results_cell_row rfl _ _ (w.heap.size + 1) 27 #[.int .i64 (-1), .slice none 0 0] (0, 0) _ rfl ?_ Try.underlying27 rfl Try.size27) rfl ?_
    · rw [Below.heap_alloc _ _ _ (by simp)]
      have := heap_alloc_new (w.alloc (.cells #[.int .i64 p, .slice a l.length cap] 39)) (.cells #[.int .i64 (-1), .slice none 0 0] 27)
      simpa using this
    · refine ⟨.slice none 0 0, by rw [HR.out], by rw [HR.out]; exact OwnInts.nil _ _, (((Below.refl _ _).alloc (Nat.le_refl _) _).alloc (by simp) _).alloc (by simp; omega) _⟩
  · go_enter Try.func23, Try.ntmps23
    go_wp2
    have HS0 := Lib.hid (AS.start w p l (.cells #[.int .i64 p, .slice a l.length cap] 39))
    generalize (((((w.alloc (.cells #[.int .i64 p, .slice a l.length cap] 39)).alloc (.cells #[.int .i64 0, .slice none 0 0] 27)).alloc (.cells #[.int .i64 (-1), .slice none 0 0] 27)).alloc (.cells #[.int .i64 p, .slice none 0 0] 27)).alloc (.map #[] 0)) = W0 at HS0 ⊢
    go_loopw [22] (fun k wr => ∃ (c : List Int) (v : Value) (i : Nat), k = .int .i64 (i : Int) ∧ AS w p l i c v wr ∧ ShTo l i c) (fun k _ => l.length - (intOf k).toNat)
    case atStart => exact ⟨[], _, 0, rfl, HS0.out, ShTo.start l⟩
    case round =>
      obtain ⟨c, v, i, rfl, hS, hT⟩ := hrel
      have hil := hT.le
      have hclb : c.length ≤ 8796093022000 := by rw [hT.len]; omega
      have HS := Lib.hid hS
      have HT := Lib.hid hT
      have hsz := hS.size
      clear hS hT
      by_cases h1 : i < l.length
      · obtain ⟨g, off, rfl⟩ := HA.out (ne_of_lt_len h1)
        obtain ⟨b, n, hsi⟩ : ∃ b n, l[i]? = some (b, n) := ⟨l[i].1, l[i].2, List.getElem?_eq_getElem h1⟩
        obtain ⟨hg, c0, c1⟩ := SlotsAt.get (HV.out.below HS.out.below) hsi
        have hnb := hl _ (List.mem_of_getElem? hsi)
        simp only at hnb
        have HI := Lib.hid hsi
        clear hsi
        cases b with
        | false =>
          have H1 := Lib.hid (HS.out.alloc (.cells #[.bool false, .int .i64 n] 53))
          have hzA : (wr.alloc (.cells #[.bool false, .int .i64 n] 53)).heap.size = wr.heap.size + 1 := by simp
          by_cases hn0 : n < 0
          · have r0 : (wr.alloc (.cells #[.bool false, .int .i64 n] 53)).cell? ⟨w.heap.size + 2, 0, none⟩ = some (.int .i64 (-1)) := by have := H1.out.non; simp only [World.cell?, this]; rfl
            have r1 : (wr.alloc (.cells #[.bool false, .int .i64 n] 53)).cell? ⟨w.heap.size + 2, 1, none⟩ = some (.slice none 0 0) := by have := H1.out.non; simp only [World.cell?, this]; rfl
            have t0 : (wr.alloc (.cells #[.bool false, .int .i64 n] 53)).cell? ⟨w.heap.size + 1, 0, none⟩ = some (.int .i64 0) := by have := H1.out.res; simp only [World.cell?, this]; rfl
            have t1 : (wr.alloc (.cells #[.bool false, .int .i64 n] 53)).cell? ⟨w.heap.size + 1, 1, none⟩ = some (.slice none 0 0) := by have := H1.out.res; simp only [World.cell?, this]; rfl
            have f0 : (wr.alloc (.cells #[.bool false, .int .i64 n] 53)).frozen? ⟨w.heap.size + 1, 0, none⟩ = false := by have := H1.out.res; simp only [World.frozen?, this]; rfl
            have f1 : (wr.alloc (.cells #[.bool false, .int .i64 n] 53)).frozen? ⟨w.heap.size + 1, 1, none⟩ = false := by have := H1.out.res; simp only [World.frozen?, this]; rfl
            have HR := Lib.hid (shapeB_bad (p := p) HI.out hn0)
            go_wp2
            refine bodyPost_ret (results_cell_row rfl _ _ (w.heap.size + 1) 27 #[.int .i64 (-1), .slice none 0 0] (0, 0) _ rfl ?_ Try.underlying27 rfl Try.size27) rfl ?_
            · exact block_setCell (block_setCell H1.out.res)
            · refine ⟨.slice none 0 0, by rw [HR.out], by rw [HR.out]; exact OwnInts.nil _ _, (H1.out.below.setCell (p := ⟨w.heap.size + 1, 0, none⟩) (show w.heap.size ≤ w.heap.size + 1 by omega) _).setCell (p := ⟨w.heap.size + 1, 1, none⟩) (show w.heap.size ≤ w.heap.size + 1 by omega) _⟩
          · have k1 := H1.out.cvar
            have HT2 := Lib.hid (HT.out.const HI.out (by omega))
            go_wp2_with (at_builtin; refine wpList_append_own _ rfl _ _ 25 rfl (w.heap.size + 5) 3 i3 (.int .i64 0) 1 8 Try.underlying25 qi q0 q1 q2 rfl (by decide) v c.length (lits c) rfl (H1.out.alloc (.cells #[.int .i64 n] 3)).own ⟨wr.heap.size + 1, 0, none⟩ 1 1 [.int .i64 n] rfl rfl (by rw [← hzA]; exact cell_one_new _ _ _) (one_i64 _) (by unfold maxLen; omega) (by omega) (by simp; omega) ?_; intro v' w1 hown' hgrow hnl; obtain ⟨g', c', rfl⟩ := Joins.ownsRow_form hown' (by omega); have hw3 := (H1.out.alloc (.cells #[.int .i64 n] 3)).grown hgrow; have k1 := cvar_of hw3; have hf := fvar_of hw3)
            have HP := Lib.hid (((H1.out.alloc (.cells #[.int .i64 n] 3)).push hown' hgrow).next (fun D hD => hD.const HI.out))
            go_roundw
            case rel => exact ⟨c ++ [n], _, i + 1, by go_num, HP.out, HT2.out⟩
            case measure => simp only [intOf]; omega
        | true =>
          have H1 := Lib.hid (HS.out.alloc (.cells #[.bool true, .int .i64 n] 53))
          obtain ⟨D, hD, hM⟩ := H1.out.map
          have hkey := Go.Maps.keyOf_int_mk (P := Try.prog) Try.underlying3 (wf_i64 hnb)
          have HM := Lib.hid hM
          clear hM
          by_cases ho : firstV l n < i
          · have hhas : Go.Maps.has D (.int .i64 n) = true := by rw [(HM.out.2 n).1]; simpa using ho
            have HAT := Lib.hid ((HM.out.2 n).2 ho)
            obtain ⟨j, hj⟩ : ∃ j, firstV l n = j := ⟨_, rfl⟩
            have hji : j < i := by omega
            have HT2 := Lib.hid (HT.out.var HI.out hj)
            go_wp2_with (at_lookup; refine wpList_lookup_own_ok_int _ rfl _ _ 91 rfl 3 3 .i64 Try.law3 Try.underlying91 Try.underlying3 (Try.zero3 _) (w.heap.size + 4) i D rfl hD _ _ rfl hkey ?_; intro c0 hat hwc; rw [hhas]; obtain rfl : c0 = (j : Int) := (by have := HAT.out; rw [hat, hj] at this; simpa using this); clear hat hwc)
            generalize hwx : wr.alloc (.cells #[.bool true, .int .i64 n] 53) = wx
            have HN := Lib.hid (show AS w p l (i + 1) c v wx by rw [← hwx]; exact H1.out.next (fun D hD => hD.old HI.out ho))
            have k1 := HN.out.cvar
            have hsx := HN.out.size
            clear hwx
            clear hhas hj hD
            have k2 := (HN.out.alloc (.cells #[.int .i64 (-1 - (j : Int))] 3)).cvar
            go_region_law
              (first
                | (go_simp; go_at_call 51; refine (free_any _ (by omega) _).mono ?_; rintro e w' ⟨rfl, rfl⟩)
                | (refine step_append_own _ (by rfl) _ _ 25 (by rfl) (w.heap.size + 5) 3 i3 (.int .i64 0) 1 8 Try.underlying25 qi q0 q1 q2 rfl (by decide) v c.length (lits c) (by rfl) (by exact (HN.out.alloc (.cells #[.int .i64 (-1 - (j : Int))] 3)).own) ⟨wx.heap.size, 0, none⟩ 1 1 [.int .i64 (-1 - (j : Int))] (by rfl) (by rfl) (World.news_of_block (cs := #[.int .i64 (-1 - (j : Int))]) (t := 3) (fr := (0, 0)) (heap_alloc_new wx _)) (one_i64 _) (by unfold maxLen; omega) (by omega) (by simp; omega) ?_; intro v' w1 hown' hgrow' hnl; obtain ⟨g', c', rfl⟩ := Joins.ownsRow_form hown' (by omega); have hgrow : (wx.alloc (.cells #[.int .i64 (-1 - (j : Int))] 3)).grownBy w1 v.ownBlock := ⟨hgrow'.os, hgrow'.tape, hgrow'.output, hgrow'.size, hgrow'.block⟩; have hw3 := (HN.out.alloc (.cells #[.int .i64 (-1 - (j : Int))] 3)).grown hgrow; have k1 := cvar_of hw3; have hf := fvar_of hw3))
            all_goals
              have HP := Lib.hid ((HN.out.alloc (.cells #[.int .i64 (-1 - (j : Int))] 3)).push hown' hgrow)
              go_wp2
              go_roundw
              case rel => exact ⟨c ++ [-1 - (j : Int)], _, i + 1, by go_num, HP.out, HT2.out⟩
              case measure => simp only [intOf]; omega
          · have hhas : Go.Maps.has D (.int .i64 n) = false := by rw [(HM.out.2 n).1]; simpa using ho
            have hf : firstV l n = i := by have := firstV_le HI.out; omega
            have HT2 := Lib.hid (HT.out.var HI.out hf)
            go_wp2_with (first | (at_lookup; refine wpList_lookup_own_ok_int _ rfl _ _ 91 rfl 3 3 .i64 Try.law3 Try.underlying91 Try.underlying3 (Try.zero3 _) (w.heap.size + 4) i D rfl hD _ _ rfl hkey ?_; intro c0 hat hwc; rw [hhas]; clear hat hwc) | (at_mapUpdate; refine wpList_mapUpdate_own _ rfl _ _ _ 91 rfl 3 3 Try.law3 Try.underlying91 _ (w.heap.size + 4) i _ rfl hD (by unfold maxLen; omega) _ _ _ rfl rfl hkey _ [] (plainElem_int Try.underlying3 (wf_i64 (by omega))) ?_; intro wx hown2 hgrow2))
            have HN := Lib.hid (H1.out.mapped hown2 (HM.out.new HI.out ho) hgrow2)
            have k1 := HN.out.cvar
            have hsx := HN.out.size
            clear hhas hf hD hown2 hgrow2
            have k2 := (HN.out.alloc (.cells #[.int .i64 (-1 - (i : Int))] 3)).cvar
            go_region_law
              (first
                | (go_simp; go_at_call 51; refine (free_any _ (by omega) _).mono ?_; rintro e w' ⟨rfl, rfl⟩)
                | (refine step_append_own _ (by rfl) _ _ 25 (by rfl) (w.heap.size + 5) 3 i3 (.int .i64 0) 1 8 Try.underlying25 qi q0 q1 q2 rfl (by decide) v c.length (lits c) (by rfl) (by exact (HN.out.alloc (.cells #[.int .i64 (-1 - (i : Int))] 3)).own) ⟨wx.heap.size, 0, none⟩ 1 1 [.int .i64 (-1 - (i : Int))] (by rfl) (by rfl) (World.news_of_block (cs := #[.int .i64 (-1 - (i : Int))]) (t := 3) (fr := (0, 0)) (heap_alloc_new wx _)) (one_i64 _) (by unfold maxLen; omega) (by omega) (by simp; omega) ?_; intro v' w1 hown' hgrow' hnl; obtain ⟨g', c', rfl⟩ := Joins.ownsRow_form hown' (by omega); have hgrow : (wx.alloc (.cells #[.int .i64 (-1 - (i : Int))] 3)).grownBy w1 v.ownBlock := ⟨hgrow'.os, hgrow'.tape, hgrow'.output, hgrow'.size, hgrow'.block⟩; have hw3 := (HN.out.alloc (.cells #[.int .i64 (-1 - (i : Int))] 3)).grown hgrow; have k1 := cvar_of hw3; have hf := fvar_of hw3))
            all_goals
              have HP := Lib.hid ((HN.out.alloc (.cells #[.int .i64 (-1 - (i : Int))] 3)).push hown' hgrow)
              go_wp2
              go_roundw
              case rel => exact ⟨c ++ [-1 - (i : Int)], _, i + 1, by go_num, HP.out, HT2.out⟩
              case measure => simp only [intOf]; omega
      · have e : i = l.length := by omega
        have HR := Lib.hid (show shapeB p l = ⟨p, c⟩ by have := HT.out; rw [e] at this; exact this.stop (by omega))
        have v0 : wr.cell? ⟨w.heap.size + 3, 0, none⟩ = some (.int .i64 p) := by have := HS.out.var; simp only [World.cell?, this]; rfl
        have v1 := HS.out.cvar
        have t0 : wr.cell? ⟨w.heap.size + 1, 0, none⟩ = some (.int .i64 0) := by have := HS.out.res; simp only [World.cell?, this]; rfl
        have t1 : wr.cell? ⟨w.heap.size + 1, 1, none⟩ = some (.slice none 0 0) := by have := HS.out.res; simp only [World.cell?, this]; rfl
        have f0 : wr.frozen? ⟨w.heap.size + 1, 0, none⟩ = false := by have := HS.out.res; simp only [World.frozen?, this]; rfl
        have f1 : wr.frozen? ⟨w.heap.size + 1, 1, none⟩ = false := by have := HS.out.res; simp only [World.frozen?, this]; rfl
        have hown := HS.out.own
        obtain ⟨av, nv, cv, rfl⟩ := OwnInts.form (l := c) hown
        clear e
        go_wp2
        refine bodyPost_ret (results_cell_row rfl _ _ (w.heap.size + 1) 27 #[.int .i64 p, .slice av nv cv] (0, 0) _ rfl ?_ Try.underlying27 rfl Try.size27) rfl ?_
        · exact block_setCell (block_setCell HS.out.res)
        · refine ⟨.slice av nv cv, by rw [HR.out], ?_, (HS.out.below.setCell (p := ⟨w.heap.size + 1, 0, none⟩) (show w.heap.size ≤ w.heap.size + 1 by omega) _).setCell (p := ⟨w.heap.size + 1, 1, none⟩) (show w.heap.size ≤ w.heap.size + 1 by omega) _⟩
          rw [HR.out]
          have h1 := ownsRow_setCell_below (ownsRow_setCell_below hown (a := ⟨w.heap.size + 1, 0, none⟩) (show w.heap.size + 1 < w.heap.size + 5 by omega) (.int .i64 p)) (a := ⟨w.heap.size + 1, 1, none⟩) (show w.heap.size + 1 < w.heap.size + 5 by omega) (.slice av nv cv)
          exact World.ownsRow.mono h1 (by omega)

theorem shape_any (p : Int) (l : List Slt) (v : Value) (w : World) (hv : SlotsAt w w.heap.size v l) (hl : I64l l) (hn : l.length ≤ 8796093021952) :
    Calls Try.prog 23 #[.agg #[.int .i64 p, v]] w (ShapeIs (shapeB p l) w) := shape_big p l v w hv hl (Nat.le_trans hn (by decide))

end Go.Proofs.Ytlandkindbmbfaa
/-
  Patterns that the call makes: a list of slots of its own, held in a pattern variable, grown by one slot a round. No condition beyond those that each lemma states.
-/
namespace Go.Proofs.Ytlandkindbmbfaa
open Go.RowKit Plain

/-- The cells of a list of slots. -/
def slits : List Slt → List Value
  | [] => []
  | a :: l => .bool a.1 :: .int .i64 a.2 :: slits l
theorem slits_length : ∀ l : List Slt, (slits l).length = l.length * 2
  | [] => rfl
  | a :: l => by simp [slits, slits_length l]; omega
theorem slits_snoc : ∀ (l : List Slt) (a : Slt), slits (l ++ [a]) = slits l ++ [.bool a.1, .int .i64 a.2]
  | [], _ => rfl
  | b :: l, a => by simp [slits, slits_snoc l a]
theorem slits_get : ∀ (l : List Slt) (j : Nat) (b : Bool) (n : Int), l[j]? = some (b, n) → (slits l)[j * 2]? = some (.bool b) ∧ (slits l)[j * 2 + 1]? = some (.int .i64 n)
  | [], _, _, _, h => by simp at h
  | a :: l, 0, b, n, h => by simp at h; subst h; exact ⟨rfl, rfl⟩
  | a :: l, j + 1, b, n, h => by
    have := slits_get l j b n (by simpa using h)
    rw [show (j + 1) * 2 = j * 2 + 1 + 1 by omega]
    exact this
def OwnSlots (w : World) (B : Nat) (v : Value) (l : List Slt) : Prop := w.ownsRow B 53 2 v l.length (slits l)
theorem OwnSlots.nil (w : World) (B : Nat) : OwnSlots w B (.slice none 0 0) [] := World.ownsRow_nil _ _ _ _
theorem OwnSlots.at {w : World} {B : Nat} {v : Value} {l : List Slt} (h : OwnSlots w B v l) : SlotsAt w w.heap.size v l := by
  rcases Joins.ownsRow_forms h with ⟨rfl, h0⟩ | ⟨g, cap, rfl⟩
  · obtain rfl := List.length_eq_zero_iff.1 h0
    exact ⟨none, 0, rfl, .inl rfl⟩
  · refine ⟨_, cap, rfl, .inr ⟨g, 0, rfl, (h.lt g rfl).2, fun j b n hj => ?_⟩⟩
    have hj' : j < l.length := (List.getElem?_eq_some_iff.1 hj).1
    have hf := slits_get l j b n hj
    rw [Nat.zero_add]
    exact ⟨by rw [World.ownsRow.cellAt h (j * 2) (by omega)]; exact hf.1, by rw [World.ownsRow.cellAt h (j * 2 + 1) (by omega)]; exact hf.2⟩
theorem OwnSlots.form {w : World} {B : Nat} {v : Value} {l : List Slt} (h : OwnSlots w B v l) : ∃ a n c, v = .slice a n c := by
  rcases Joins.ownsRow_forms h with ⟨rfl, _⟩ | ⟨g, cap, rfl⟩
  · exact ⟨_, _, _, rfl⟩
  · exact ⟨_, _, _, rfl⟩
theorem Try.info53 : (Try.prog.info? 53).map (fun i => (i.zero, i.size, i.bytes)) = some (some (.agg #[.bool false, .int .i64 0]), 2, 16) := by kernel_rfl
theorem Try.size39 : (Try.prog.info? 39).map (·.size) = some 2 := by kernel_rfl
theorem one_slot (b : Bool) (n : Int) : ∀ u ∈ [Value.bool b, Value.int .i64 n], u.oneCell' = true := by
  intro u hu
  simp only [List.mem_cons, List.not_mem_nil, or_false] at hu
  rcases hu with rfl | rfl <;> rfl

/-- What the functions answer that make a pattern. -/
def PatIs (p : Int) (l : List Slt) (w : World) (e : Ending) (w' : World) : Prop := ∃ v, e = .returned (.agg #[.int .i64 p, v]) ∧ OwnSlots w' w.heap.size v l ∧ Below w.heap.size w w'

/-- The state of the loop: the argument's box, the result's cells, the pattern q that grows. -/
structure PS (w : World) (q : Value) (p : Int) (out : List Slt) (v : Value) (wr : World) : Prop where
  below : Below w.heap.size w wr
  size : w.heap.size + 3 ≤ wr.heap.size
  box : wr.heap[w.heap.size]? = some (.cells #[q, v] 39 (0, 0)) → True
  res : wr.heap[w.heap.size + 1]? = some (.cells #[.int .i64 0, .slice none 0 0] 39 (0, 0))
  var : wr.heap[w.heap.size + 2]? = some (.cells #[.int .i64 p, v] 39 (0, 0))
  own : wr.ownsRow (w.heap.size + 3) 53 2 v out.length (slits out)

section
variable {w wr w1 : World} {p : Int} {out : List Slt} {v v' : Value} {b : Bool} {n : Int} {a0 a1 : Value}
/-- .. with the argument's box. -/
def PSB (w : World) (a0 a1 : Value) (p : Int) (out : List Slt) (v : Value) (wr : World) : Prop := PS w .nilIface p out v wr ∧ wr.heap[w.heap.size]? = some (.cells #[a0, a1] 39 (0, 0))
theorem PSB.alloc (h : PSB w a0 a1 p out v wr) (o : Obj) : PSB w a0 a1 p out v (wr.alloc o) := by
  obtain ⟨h, hb⟩ := h
  have hz := h.size
  have hg := World.grownBy_alloc wr o none
  exact ⟨⟨h.below.alloc (by omega) o, by simp; omega, fun _ => trivial, (hg.block _ (by omega) (by simp)).trans h.res, (hg.block _ (by omega) (by simp)).trans h.var, h.own.alloc o⟩, (hg.block _ (by omega) (by simp)).trans hb⟩
theorem PSB.carg (h : PSB w a0 a1 p out v wr) : wr.cell? ⟨w.heap.size, 1, none⟩ = some a1 := by have := h.2; simp only [World.cell?, this]; rfl
theorem PSB.cvar (h : PSB w a0 a1 p out v wr) : wr.cell? ⟨w.heap.size + 2, 1, none⟩ = some v := by have := h.1.var; simp only [World.cell?, this]; rfl
theorem PSB.grown (h : PSB w a0 a1 p out v wr) (hg : wr.grownBy w1 v.ownBlock) : w1.heap[w.heap.size + 2]? = some (.cells #[.int .i64 p, v] 39 (0, 0)) :=
  (hg.block _ (by have := h.1.size; omega) (own_ge h.1.own (by omega))).trans h.1.var
theorem pvar_of (h : w1.heap[w.heap.size + 2]? = some (.cells #[.int .i64 p, v] 39 (0, 0))) : w1.cell? ⟨w.heap.size + 2, 1, none⟩ = some v := by simp only [World.cell?, h]; rfl
theorem pfre_of (h : w1.heap[w.heap.size + 2]? = some (.cells #[.int .i64 p, v] 39 (0, 0))) : w1.frozen? ⟨w.heap.size + 2, 1, none⟩ = false := by simp only [World.frozen?, h]; rfl
/-- Behind the append and the store of what it gave. -/
theorem PSB.push (h : PSB w a0 a1 p out v wr) (hown' : w1.ownsRow (w.heap.size + 3) 53 2 v' (out.length + 1) (slits out ++ [.bool b, .int .i64 n])) (hg : wr.grownBy w1 v.ownBlock) :
    PSB w a0 a1 p (out ++ [(b, n)]) v' (w1.setCell ⟨w.heap.size + 2, 1, none⟩ v') := by
  obtain ⟨h, hb⟩ := h
  have hz := h.size
  refine ⟨⟨(h.below.grown hg (by omega) (fun k hk => by have := (h.own.lt k hk).1; omega)).setCell (p := ⟨w.heap.size + 2, 1, none⟩) (show w.heap.size ≤ w.heap.size + 2 by omega) _, by have := hg.size; simp [World.setCell]; omega, fun _ => trivial, ?_, ?_, ?_⟩, ?_⟩
  · rw [Below.heap_setCell _ _ _ _ (by simp)]; exact (hg.block _ (by omega) (own_ge h.own (by omega))).trans h.res
  · exact block_setCell ((hg.block _ (by omega) (own_ge h.own (by omega))).trans h.var)
  · have := ownsRow_setCell_below hown' (a := ⟨w.heap.size + 2, 1, none⟩) (show w.heap.size + 2 < w.heap.size + 3 by omega) v'
    rw [slits_snoc, List.length_append, List.length_singleton]; exact this
  · rw [Below.heap_setCell _ _ _ _ (by simp)]; exact (hg.block _ (by omega) (own_ge h.own (by omega))).trans hb
theorem PSB.start (w : World) (a0 a1 : Value) (p : Int) : PSB w a0 a1 p [] (.slice none 0 0) (((w.alloc (.cells #[a0, a1] 39)).alloc (.cells #[.int .i64 0, .slice none 0 0] 39)).alloc (.cells #[.int .i64 p, .slice none 0 0] 39)) := by
  obtain ⟨w0, h0⟩ : ∃ w0, w0 = w.alloc (.cells #[a0, a1] 39) := ⟨_, rfl⟩
  obtain ⟨w1, h1⟩ : ∃ w1, w1 = w0.alloc (.cells #[.int .i64 0, .slice none 0 0] 39) := ⟨_, rfl⟩
  have z0 : w0.heap.size = w.heap.size + 1 := by rw [h0]; simp
  have z1 : w1.heap.size = w.heap.size + 2 := by rw [h1]; simp; omega
  rw [← h0, ← h1]
  have b0 : w0.heap[w.heap.size]? = some (.cells #[a0, a1] 39 (0, 0)) := by rw [h0]; exact heap_alloc_new _ _
  have b1 : w1.heap[w.heap.size + 1]? = some (.cells #[.int .i64 0, .slice none 0 0] 39 (0, 0)) := by rw [h1, ← z0]; exact heap_alloc_new _ _
  refine ⟨⟨?_, by simp; omega, fun _ => trivial, ?_, ?_, World.ownsRow_nil _ _ _ _⟩, ?_⟩
  · rw [h1, h0]
    exact (((Below.refl _ _).alloc (Nat.le_refl _) _).alloc (by simp) _).alloc (by simp; omega) _
  · rw [Below.heap_alloc _ _ _ (by omega)]; exact b1
  · rw [← z1]; exact heap_alloc_new _ _
  · rw [Below.heap_alloc _ _ _ (by omega), h1, Below.heap_alloc _ _ _ (by omega)]; exact b0
/-- The end: the pattern is copied into the result. -/
theorem PSB.stop (h : PSB w a0 a1 p out v wr) : ((wr.setCell ⟨w.heap.size + 1, 0, none⟩ (.int .i64 p)).setCell ⟨w.heap.size + 1, 1, none⟩ v).heap[w.heap.size + 1]? = some (.cells #[.int .i64 p, v] 39 (0, 0)) ∧
    OwnSlots ((wr.setCell ⟨w.heap.size + 1, 0, none⟩ (.int .i64 p)).setCell ⟨w.heap.size + 1, 1, none⟩ v) w.heap.size v out ∧ Below w.heap.size w ((wr.setCell ⟨w.heap.size + 1, 0, none⟩ (.int .i64 p)).setCell ⟨w.heap.size + 1, 1, none⟩ v) := by
  refine ⟨block_setCell (block_setCell h.1.res), ?_, (h.1.below.setCell (p := ⟨w.heap.size + 1, 0, none⟩) (show w.heap.size ≤ w.heap.size + 1 by omega) _).setCell (p := ⟨w.heap.size + 1, 1, none⟩) (show w.heap.size ≤ w.heap.size + 1 by omega) _⟩
  have h1 := ownsRow_setCell_below (ownsRow_setCell_below h.1.own (a := ⟨w.heap.size + 1, 0, none⟩) (show w.heap.size + 1 < w.heap.size + 3 by omega) (.int .i64 p)) (a := ⟨w.heap.size + 1, 1, none⟩) (show w.heap.size + 1 < w.heap.size + 3 by omega) v
  exact World.ownsRow.mono h1 (by omega)
end

end Go.Proofs.Ytlandkindbmbfaa
