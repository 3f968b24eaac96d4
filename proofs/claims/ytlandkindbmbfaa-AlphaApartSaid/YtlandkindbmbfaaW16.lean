/-
  The walk of edictref10.Shape: the pattern's shape, its cells a list of the call's own. Conditions: the numbers are ints, the list is within the form's own reach.
-/
import Derived.Test.YtlandkindbmbfaaW15
namespace Go.Proofs.Ytlandkindbmbfaa
open Go.RowKit Plain
attribute [local go_sem ↓] Go.wp_at_zero Go.wp_at_succ

/-- The state of the loop: the argument's box, the result's cells, the pattern q that grows. -/
structure QS (w : World) (q : Value) (p : Int) (out : List Int) (v : Value) (wr : World) : Prop where
  below : Below w.heap.size w wr
  size : w.heap.size + 3 ≤ wr.heap.size
  box : wr.heap[w.heap.size]? = some (.cells #[q, v] 39 (0, 0)) → True
  res : wr.heap[w.heap.size + 1]? = some (.cells #[.int .i64 0, .slice none 0 0] 27 (0, 0))
  var : wr.heap[w.heap.size + 2]? = some (.cells #[.int .i64 p, v] 27 (0, 0))
  own : wr.ownsRow (w.heap.size + 3) 3 1 v out.length (lits out)

section
variable {w wr w1 : World} {p : Int} {out : List Int} {v v' : Value} {n : Int} {a0 a1 : Value}
/-- .. with the argument's box. -/
def QSB (w : World) (a0 a1 : Value) (p : Int) (out : List Int) (v : Value) (wr : World) : Prop := QS w .nilIface p out v wr ∧ wr.heap[w.heap.size]? = some (.cells #[a0, a1] 39 (0, 0))
theorem QSB.alloc (h : QSB w a0 a1 p out v wr) (o : Obj) : QSB w a0 a1 p out v (wr.alloc o) := by
  obtain ⟨h, hb⟩ := h
  have hz := h.size
  have hg := World.grownBy_alloc wr o none
  exact ⟨⟨h.below.alloc (by omega) o, by simp; omega, fun _ => trivial, (hg.block _ (by omega) (by simp)).trans h.res, (hg.block _ (by omega) (by simp)).trans h.var, h.own.alloc o⟩, (hg.block _ (by omega) (by simp)).trans hb⟩
theorem QSB.carg (h : QSB w a0 a1 p out v wr) : wr.cell? ⟨w.heap.size, 1, none⟩ = some a1 := by have := h.2; simp only [World.cell?, this]; rfl
theorem QSB.cvar (h : QSB w a0 a1 p out v wr) : wr.cell? ⟨w.heap.size + 2, 1, none⟩ = some v := by have := h.1.var; simp only [World.cell?, this]; rfl
theorem QSB.grown (h : QSB w a0 a1 p out v wr) (hg : wr.grownBy w1 v.ownBlock) : w1.heap[w.heap.size + 2]? = some (.cells #[.int .i64 p, v] 27 (0, 0)) :=
  (hg.block _ (by have := h.1.size; omega) (own_ge h.1.own (by omega))).trans h.1.var
theorem qvar_of (h : w1.heap[w.heap.size + 2]? = some (.cells #[.int .i64 p, v] 27 (0, 0))) : w1.cell? ⟨w.heap.size + 2, 1, none⟩ = some v := by simp only [World.cell?, h]; rfl
theorem qfre_of (h : w1.heap[w.heap.size + 2]? = some (.cells #[.int .i64 p, v] 27 (0, 0))) : w1.frozen? ⟨w.heap.size + 2, 1, none⟩ = false := by simp only [World.frozen?, h]; rfl
/-- Behind the append and the store of what it gave. -/
theorem QSB.push (h : QSB w a0 a1 p out v wr) (hown' : w1.ownsRow (w.heap.size + 3) 3 1 v' (out.length + 1) (lits out ++ [.int .i64 n])) (hg : wr.grownBy w1 v.ownBlock) :
    QSB w a0 a1 p (out ++ [n]) v' (w1.setCell ⟨w.heap.size + 2, 1, none⟩ v') := by
  obtain ⟨h, hb⟩ := h
  have hz := h.size
  refine ⟨⟨(h.below.grown hg (by omega) (fun k hk => by have := (h.own.lt k hk).1; omega)).setCell (p := ⟨w.heap.size + 2, 1, none⟩) (show w.heap.size ≤ w.heap.size + 2 by omega) _, by have := hg.size; simp [World.setCell]; omega, fun _ => trivial, ?_, ?_, ?_⟩, ?_⟩
  · rw [Below.heap_setCell _ _ _ _ (by simp)]; exact (hg.block _ (by omega) (own_ge h.own (by omega))).trans h.res
  · exact block_setCell ((hg.block _ (by omega) (own_ge h.own (by omega))).trans h.var)
  · have := ownsRow_setCell_below hown' (a := ⟨w.heap.size + 2, 1, none⟩) (show w.heap.size + 2 < w.heap.size + 3 by omega) v'
    rw [lits_snoc, List.length_append, List.length_singleton]; exact this
  · rw [Below.heap_setCell _ _ _ _ (by simp)]; exact (hg.block _ (by omega) (own_ge h.own (by omega))).trans hb
theorem QSB.start (w : World) (a0 a1 : Value) (p : Int) : QSB w a0 a1 p [] (.slice none 0 0) (((w.alloc (.cells #[a0, a1] 39)).alloc (.cells #[.int .i64 0, .slice none 0 0] 27)).alloc (.cells #[.int .i64 p, .slice none 0 0] 27)) := by
  obtain ⟨w0, h0⟩ : ∃ w0, w0 = w.alloc (.cells #[a0, a1] 39) := ⟨_, rfl⟩
  obtain ⟨w1, h1⟩ : ∃ w1, w1 = w0.alloc (.cells #[.int .i64 0, .slice none 0 0] 27) := ⟨_, rfl⟩
  have z0 : w0.heap.size = w.heap.size + 1 := by rw [h0]; simp
  have z1 : w1.heap.size = w.heap.size + 2 := by rw [h1]; simp; omega
  rw [← h0, ← h1]
  have b0 : w0.heap[w.heap.size]? = some (.cells #[a0, a1] 39 (0, 0)) := by rw [h0]; exact heap_alloc_new _ _
  have b1 : w1.heap[w.heap.size + 1]? = some (.cells #[.int .i64 0, .slice none 0 0] 27 (0, 0)) := by rw [h1, ← z0]; exact heap_alloc_new _ _
  refine ⟨⟨?_, by simp; omega, fun _ => trivial, ?_, ?_, World.ownsRow_nil _ _ _ _⟩, ?_⟩
  · rw [h1, h0]
    exact (((Below.refl _ _).alloc (Nat.le_refl _) _).alloc (by simp) _).alloc (by simp; omega) _
  · rw [Below.heap_alloc _ _ _ (by omega)]; exact b1
  · rw [← z1]; exact heap_alloc_new _ _
  · rw [Below.heap_alloc _ _ _ (by omega), h1, Below.heap_alloc _ _ _ (by omega)]; exact b0
/-- The end: the pattern is copied into the result. -/
theorem QSB.stop (h : QSB w a0 a1 p out v wr) : ((wr.setCell ⟨w.heap.size + 1, 0, none⟩ (.int .i64 p)).setCell ⟨w.heap.size + 1, 1, none⟩ v).heap[w.heap.size + 1]? = some (.cells #[.int .i64 p, v] 27 (0, 0)) ∧
    OwnInts ((wr.setCell ⟨w.heap.size + 1, 0, none⟩ (.int .i64 p)).setCell ⟨w.heap.size + 1, 1, none⟩ v) w.heap.size v out ∧ Below w.heap.size w ((wr.setCell ⟨w.heap.size + 1, 0, none⟩ (.int .i64 p)).setCell ⟨w.heap.size + 1, 1, none⟩ v) := by
  refine ⟨block_setCell (block_setCell h.1.res), ?_, (h.1.below.setCell (p := ⟨w.heap.size + 1, 0, none⟩) (show w.heap.size ≤ w.heap.size + 1 by omega) _).setCell (p := ⟨w.heap.size + 1, 1, none⟩) (show w.heap.size ≤ w.heap.size + 1 by omega) _⟩
  have h1 := ownsRow_setCell_below (ownsRow_setCell_below h.1.own (a := ⟨w.heap.size + 1, 0, none⟩) (show w.heap.size + 1 < w.heap.size + 3 by omega) (.int .i64 p)) (a := ⟨w.heap.size + 1, 1, none⟩) (show w.heap.size + 1 < w.heap.size + 3 by omega) v
  exact World.ownsRow.mono h1 (by omega)
end

theorem bodyPost_ret3 {P : Program} {fn : Func} {R : Ending → World → Prop} {tmps : Array Value} {w : World} {v : Value} (h : (results fn tmps).run P w = .ok v w) (hR : R (.returned v) w) : bodyPost P fn R .ret { tmps := tmps, defers := [] } w := ⟨rfl, v, h, hR⟩
theorem QSB.same {w wr w1 : World} {a0 a1 : Value} {p : Int} {out : List Int} {v : Value} (h : QSB w a0 a1 p out v wr) (e : w1.heap = wr.heap) (eo : w1.os = wr.os) (et : w1.tape = wr.tape) (ep : w1.output = wr.output) : QSB w a0 a1 p out v w1 := by
  obtain ⟨h, hb⟩ := h
  refine ⟨⟨⟨eo.trans h.below.os, et.trans h.below.tape, ep.trans h.below.output, by rw [e]; exact h.below.size, by rw [e]; exact h.below.block⟩, by rw [e]; exact h.size, fun _ => trivial, by rw [e]; exact h.res, by rw [e]; exact h.var, ?_⟩, by rw [e]; exact hb⟩
  have := h.own; unfold World.ownsRow at *; rw [e]; exact this
theorem cell_heap2 {w w' : World} {a : Addr} {v : Value} (h : w.cell? a = some v) (e : w'.heap = w.heap) : w'.cell? a = some v := (World.cell?_of_block (by rw [e])).trans h

set_option maxRecDepth 100000 in
set_option maxHeartbeats 3200000 in
theorem refShape_any (p : Int) (l : List Slt) (v : Value) (w : World) (hv : SlotsAt w w.heap.size v l) (hl : I64l l) (hn : l.length ≤ 8796093022000) :
    Calls Try.prog 26 #[.agg #[.int .i64 p, v]] w (ShapeIs (shapeB p l) w) := by
  obtain ⟨i3, qi, q0, q1, q2⟩ := info_parts Try.info3
  obtain ⟨a, cap, rfl, ha⟩ := hv.form
  have HV := Lib.hid hv
  have HA := Lib.hid ha
  clear hv ha
  have HS0 := Lib.hid (QSB.start w (.int .i64 p) (.slice a l.length cap) p)
  by_cases hp : p < 0
  · have HR := Lib.hid (shapeB_neg (l := l) hp)
    go_enter Try.func26, Try.ntmps26
    go_wp2
    refine bodyPost_ret (results_cell_row rfl _ _ (w.heap.size + 1) 27 #[.int .i64 (-1), .slice none 0 0] (0, 0) _ rfl ?_ Try.underlying27 rfl Try.size27) rfl ?_
    · rw [Below.heap_alloc _ _ _ (by simp)]
      have := heap_alloc_new (w.alloc (.cells #[.int .i64 p, .slice a l.length cap] 39)) (.cells #[.int .i64 (-1), .slice none 0 0] 27)
      simpa using this
    · refine ⟨.slice none 0 0, by rw [HR.out], by rw [HR.out]; exact OwnInts.nil _ _, (((Below.refl _ _).alloc (Nat.le_refl _) _).alloc (by simp) _).alloc (by simp; omega) _⟩
  · go_enter Try.func26, Try.ntmps26
    go_wp2
    generalize ((w.alloc (.cells #[.int .i64 p, .slice a l.length cap] 39)).alloc (.cells #[.int .i64 0, .slice none 0 0] 27)).alloc (.cells #[.int .i64 p, .slice none 0 0] 27) = W0 at HS0 ⊢
    go_loopw [4] (fun k wr => ∃ (c : List Int) (v : Value) (i : Nat), k = .int .i64 (i : Int) ∧ QSB w (.int .i64 p) (.slice a l.length cap) p c v wr ∧ ShTo l i c) (fun k _ => l.length - (intOf k).toNat)
    case atStart => exact ⟨[], _, 0, rfl, HS0.out, ShTo.start l⟩
    case round =>
      obtain ⟨c, v, i, rfl, hS, hT⟩ := hrel
      have hil := hT.le
      have hclb : c.length ≤ 8796093022000 := by rw [hT.len]; omega
      have HS := Lib.hid hS
      have HT := Lib.hid hT
      have hsz := hS.1.size
      have ka := hS.carg
      clear hS hT
      by_cases h1 : i < l.length
      · obtain ⟨g, off, rfl⟩ := HA.out (ne_of_lt_len h1)
        obtain ⟨b, n, hsi⟩ : ∃ b n, l[i]? = some (b, n) := ⟨l[i].1, l[i].2, List.getElem?_eq_getElem h1⟩
        obtain ⟨hg, c0, c1⟩ := SlotsAt.get (HV.out.below HS.out.1.below) hsi
        have hnb := hl _ (List.mem_of_getElem? hsi)
        simp only at hnb
        have HI := Lib.hid hsi
        clear hsi
        cases b with
        | false =>
          have H1 := Lib.hid (HS.out.alloc (.cells #[.bool false, .int .i64 n] 53))
          have hzA : (wr.alloc (.cells #[.bool false, .int .i64 n] 53)).heap.size = wr.heap.size + 1 := by simp
          by_cases hn0 : n < 0
          · have t0 : (wr.alloc (.cells #[.bool false, .int .i64 n] 53)).cell? ⟨w.heap.size + 1, 0, none⟩ = some (.int .i64 0) := by have := H1.out.1.res; simp only [World.cell?, this]; rfl
            have t1 : (wr.alloc (.cells #[.bool false, .int .i64 n] 53)).cell? ⟨w.heap.size + 1, 1, none⟩ = some (.slice none 0 0) := by have := H1.out.1.res; simp only [World.cell?, this]; rfl
            have f0 : (wr.alloc (.cells #[.bool false, .int .i64 n] 53)).frozen? ⟨w.heap.size + 1, 0, none⟩ = false := by have := H1.out.1.res; simp only [World.frozen?, this]; rfl
            have f1 : (wr.alloc (.cells #[.bool false, .int .i64 n] 53)).frozen? ⟨w.heap.size + 1, 1, none⟩ = false := by have := H1.out.1.res; simp only [World.frozen?, this]; rfl
            have HR := Lib.hid (shapeB_bad (p := p) HI.out hn0)
            go_wp2
            refine bodyPost_ret (results_cell_row rfl _ _ (w.heap.size + 1) 27 #[.int .i64 (-1), .slice none 0 0] (0, 0) _ rfl ?_ Try.underlying27 rfl Try.size27) rfl ?_
            · exact block_setCell (block_setCell H1.out.1.res)
            · refine ⟨.slice none 0 0, by rw [HR.out], by rw [HR.out]; exact OwnInts.nil _ _, (H1.out.1.below.setCell (p := ⟨w.heap.size + 1, 0, none⟩) (show w.heap.size ≤ w.heap.size + 1 by omega) _).setCell (p := ⟨w.heap.size + 1, 1, none⟩) (show w.heap.size ≤ w.heap.size + 1 by omega) _⟩
          · have k1 := H1.out.cvar
            have HT2 := Lib.hid (HT.out.const HI.out (by omega))
            go_wp2_with (at_builtin; refine wpList_append_own _ rfl _ _ 25 rfl (w.heap.size + 3) 3 i3 (.int .i64 0) 1 8 Try.underlying25 qi q0 q1 q2 rfl (by decide) v c.length (lits c) rfl (H1.out.alloc (.cells #[.int .i64 n] 3)).1.own ⟨wr.heap.size + 1, 0, none⟩ 1 1 [.int .i64 n] rfl rfl (by rw [← hzA]; exact cell_one_new _ _ _) (one_i64 _) (by unfold maxLen; omega) (by omega) (by simp; omega) ?_; intro v' w1 hown' hgrow hnl; obtain ⟨g', c', rfl⟩ := Joins.ownsRow_form hown' (by omega); have hw3 := (H1.out.alloc (.cells #[.int .i64 n] 3)).grown hgrow; have k1 := qvar_of hw3; have hf := qfre_of hw3)
            have HP := Lib.hid ((H1.out.alloc (.cells #[.int .i64 n] 3)).push hown' hgrow)
            go_roundw
            case rel => exact ⟨c ++ [n], _, i + 1, by go_num, HP.out, HT2.out⟩
            case measure => simp only [intOf]; omega
        | true =>
          have hfle := firstV_le HI.out
          obtain ⟨f, hf⟩ : ∃ f, firstV l n = f := ⟨_, rfl⟩
          rw [hf] at hfle
          have hfl : f < l.length := by omega
          have HF := Lib.hid hf
          have HT2 := Lib.hid (HT.out.var HI.out hf)
          clear hf
          obtain ⟨Z, hZ⟩ : ∃ Z, Z = wr.heap.size := ⟨_, rfl⟩
          go_wp2
          generalize hwa : wr.alloc (.cells #[.bool true, .int .i64 n] 53) = wa
          have bH : wa.heap[Z]? = some (.cells #[.bool true, .int .i64 n] 53 (0, 0)) := by rw [← hwa, hZ]; exact heap_alloc_new _ _
          have bA := Lib.hid (show wa.cell? ⟨Z, 1, none⟩ = some (.int .i64 n) by simp only [World.cell?, bH]; rfl)
          have H1 := Lib.hid (show QSB w (.int .i64 p) (.slice (some ⟨g, off, none⟩) l.length cap) p c v wa by rw [← hwa]; exact HS.out.alloc _)
          have HSL := Lib.hid (show SlotsAt wa w.heap.size (.slice (some ⟨g, off, none⟩) l.length cap) l from HV.out.below H1.out.1.below)
          rw [← hZ]
          clear hwa bH c0 c1 ka HS hZ
          go_loopw [6] (fun k wx => ∃ j : Nat, k = .int .i64 (j : Int) ∧ j ≤ f ∧ wx.heap = wa.heap ∧ wx.os = wa.os ∧ wx.tape = wa.tape ∧ wx.output = wa.output) (fun k _ => f - (intOf k).toNat)
          case atStart => exact ⟨0, rfl, Nat.zero_le _, rfl, rfl, rfl, rfl⟩
          case round =>
            obtain ⟨j, rfl, hjf, hh, ho, ht, hq⟩ := hrel
            obtain ⟨b2, m, hsj⟩ : ∃ b2 m, l[j]? = some (b2, m) := ⟨(l[j]'(by omega)).1, (l[j]'(by omega)).2, List.getElem?_eq_getElem (by omega)⟩
            obtain ⟨_, d0, d1⟩ := SlotsAt.get HSL.out hsj
            have d0 := cell_heap2 d0 hh
            have d1 := cell_heap2 d1 hh
            have d2 := cell_heap2 bA.out hh
            have d3 := cell_heap2 H1.out.carg hh
            have j0 : (0 : Int) ≤ (j : Int) := Int.natCast_nonneg _
            have j1 : (j : Int) < (l.length : Int) := by omega
            have HH := Lib.hid (And.intro hh (And.intro ho (And.intro ht hq)))
            clear hh ho ht hq
            by_cases hjq : j < f
            · cases b2 with
              | false =>
                clear hsj
                go_wp2_with fail
                go_quiet (fail)
                generalize hW : wr.drewN _ = w2
                have H2 := Lib.hid (show w2.heap = wa.heap ∧ w2.os = wa.os ∧ w2.tape = wa.tape ∧ w2.output = wa.output by rw [← hW]; exact HH.out)
                clear hW d0 d1 d2 d3
                go_wp2
                go_roundw
                case rel => exact ⟨j + 1, by go_num, by omega, H2.out⟩
                case measure => simp only [intOf]; omega
              | true =>
                have hmn : m ≠ n := fun e => by
                  subst e
                  have := firstV_le hsj
                  rw [HF.out] at this
                  omega
                have hb : (m != n) = true := by simpa using hmn
                clear hsj hmn
                go_wp2_with fail
                go_quiet (fail)
                generalize hW : wr.drewN _ = w2
                have H2 := Lib.hid (show w2.heap = wa.heap ∧ w2.os = wa.os ∧ w2.tape = wa.tape ∧ w2.output = wa.output by rw [← hW]; exact HH.out)
                clear hW d0 d1 d2 d3
                go_wp2
                go_roundw
                case rel => exact ⟨j + 1, by go_num, by omega, H2.out⟩
                case measure => simp only [intOf]; omega
            · have e : j = f := by omega
              subst e
              have hat := firstV_at (l := l) (n := n) (by rw [HF.out]; exact hfl)
              rw [HF.out, hsj] at hat
              simp only [Option.some.injEq, Prod.mk.injEq] at hat
              obtain ⟨rfl, rfl⟩ := hat
              have hb : (m != m) = false := by simp
              clear hsj
              go_wp2_with fail
              go_quiet (fail)
              generalize hW : wr.drewN _ = w2
              have H2 := Lib.hid (show QSB w (.int .i64 p) (.slice (some ⟨g, off, none⟩) l.length cap) p c v w2 by rw [← hW]; exact H1.out.same HH.out.1 HH.out.2.1 HH.out.2.2.1 HH.out.2.2.2)
              have hsz2 := H2.out.1.size
              have k1 := H2.out.cvar
              clear hW d0 d1 d2 d3 HH hb
              go_wp2_with (at_builtin; refine wpList_append_own _ rfl _ _ 25 rfl (w.heap.size + 3) 3 i3 (.int .i64 0) 1 8 Try.underlying25 qi q0 q1 q2 rfl (by decide) v c.length (lits c) rfl (H2.out.alloc (.cells #[.int .i64 (-1 - (j : Int))] 3)).1.own ⟨w2.heap.size, 0, none⟩ 1 1 [.int .i64 (-1 - (j : Int))] rfl rfl (cell_one_new _ _ _) (one_i64 _) (by unfold maxLen; omega) (by omega) (by simp; omega) ?_; intro v' w1 hown' hgrow hnl; obtain ⟨g', c', rfl⟩ := Joins.ownsRow_form hown' (by omega); have hw3 := (H2.out.alloc (.cells #[.int .i64 (-1 - (j : Int))] 3)).grown hgrow; have k1 := qvar_of hw3; have hf := qfre_of hw3)
              have HP := Lib.hid ((H2.out.alloc (.cells #[.int .i64 (-1 - (j : Int))] 3)).push hown' hgrow)
              go_roundw
              case rel => exact ⟨c ++ [-1 - (j : Int)], _, i + 1, by go_num, HP.out, HT2.out⟩
              case measure => simp only [intOf]; omega
      · have e : i = l.length := by omega
        have HR := Lib.hid (show shapeB p l = ⟨p, c⟩ by have := HT.out; rw [e] at this; exact this.stop (by omega))
        have v0 : wr.cell? ⟨w.heap.size + 2, 0, none⟩ = some (.int .i64 p) := by have := HS.out.1.var; simp only [World.cell?, this]; rfl
        have v1 := HS.out.cvar
        have t0 : wr.cell? ⟨w.heap.size + 1, 0, none⟩ = some (.int .i64 0) := by have := HS.out.1.res; simp only [World.cell?, this]; rfl
        have t1 : wr.cell? ⟨w.heap.size + 1, 1, none⟩ = some (.slice none 0 0) := by have := HS.out.1.res; simp only [World.cell?, this]; rfl
        have f0 : wr.frozen? ⟨w.heap.size + 1, 0, none⟩ = false := by have := HS.out.1.res; simp only [World.frozen?, this]; rfl
        have f1 : wr.frozen? ⟨w.heap.size + 1, 1, none⟩ = false := by have := HS.out.1.res; simp only [World.frozen?, this]; rfl
        obtain ⟨av, nv, cv, rfl⟩ := OwnInts.form (l := c) HS.out.1.own
        clear e
        go_wp2
        obtain ⟨s1, s2, s3⟩ := HS.out.stop
        exact bodyPost_ret3 (results_cell_row rfl _ _ (w.heap.size + 1) 27 #[.int .i64 p, .slice av nv cv] (0, 0) _ rfl s1 Try.underlying27 rfl Try.size27) ⟨_, by rw [HR.out], by rw [HR.out]; exact s2, s3⟩

end Go.Proofs.Ytlandkindbmbfaa
