/-
  Texts of this seat, one behind the other: W16, W17, W26, W27. Conditions: those that each of them states.
-/
import Derived.Test.YtlandkindbmbfaaG7
import Derived.StillTailTactics
import Derived.Test.YtlandkindbmbfaaG10
/-
  The walk of edictref10.Shape: the pattern's shape, its cells a list of the call's own. Conditions: the numbers are ints, the list is within the form's own reach.
-/
namespace Go.Proofs.Ytlandkindbmbfaa
open Go.RowKit Plain
attribute [local go_sem ↓] Go.wp_at_zero Go.wp_at_succ

/-- The state of the loop: the argument's box, the result's cells, the pattern q that grows. -/
structure QS (w : World) (q : Value) (p : Int) (out : List Int) (v : Value) (wr : World) : Prop where
  below : Below w.heap.size w wr
  size : w.heap.size + 3 ≤ wr.heap.size
  box : wr.heap[w.heap.size]? = some (.cells #[q, v] 39 (0, 0)) → True
  res : wr.heap[w.heap.size + 1]? = some (.cells #[.int .i64 0, .slice none 0 0] 27 (0, 0))
  var : wr.heap[w.heap.size + 2]? = some (.cells #[.int .i64 p, v] 27 (0, 0))
  own : wr.ownsRow (w.heap.size + 3) 3 1 v out.length (lits out)

section
variable {w wr w1 : World} {p : Int} {out : List Int} {v v' : Value} {n : Int} {a0 a1 : Value}
/-- .. with the argument's box. -/
def QSB (w : World) (a0 a1 : Value) (p : Int) (out : List Int) (v : Value) (wr : World) : Prop := QS w .nilIface p out v wr ∧ wr.heap[w.heap.size]? = some (.cells #[a0, a1] 39 (0, 0))
theorem QSB.alloc (h : QSB w a0 a1 p out v wr) (o : Obj) : QSB w a0 a1 p out v (wr.alloc o) := by
  obtain ⟨h, hb⟩ := h
  have hz := h.size
  have hg := World.grownBy_alloc wr o none
  exact ⟨⟨h.below.alloc (by omega) o, by simp; omega, fun _ => trivial, (hg.block _ (by omega) (by simp)).trans h.res, (hg.block _ (by omega) (by simp)).trans h.var, h.own.alloc o⟩, (hg.block _ (by omega) (by simp)).trans hb⟩
theorem QSB.carg (h : QSB w a0 a1 p out v wr) : wr.cell? ⟨w.heap.size, 1, none⟩ = some a1 := by have := h.2; simp only [World.cell?, this]; rfl
theorem QSB.cvar (h : QSB w a0 a1 p out v wr) : wr.cell? ⟨w.heap.size + 2, 1, none⟩ = some v := by have := h.1.var; simp only [World.cell?, this]; rfl
theorem QSB.grown (h : QSB w a0 a1 p out v wr) (hg : wr.grownBy w1 v.ownBlock) : w1.heap[w.heap.size + 2]? = some (.cells #[.int .i64 p, v] 27 (0, 0)) :=
  (hg.block _ (by have := h.1.size; omega) (own_ge h.1.own (by omega))).trans h.1.var
theorem qvar_of (h : w1.heap[w.heap.size + 2]? = some (.cells #[.int .i64 p, v] 27 (0, 0))) : w1.cell? ⟨w.heap.size + 2, 1, none⟩ = some v := by simp only [World.cell?, h]; rfl
theorem qfre_of (h : w1.heap[w.heap.size + 2]? = some (.cells #[.int .i64 p, v] 27 (0, 0))) : w1.frozen? ⟨w.heap.size + 2, 1, none⟩ = false := by simp only [World.frozen?, h]; rfl
/-- Behind the append and the store of what it gave. -/
theorem QSB.push (h : QSB w a0 a1 p out v wr) (hown' : w1.ownsRow (w.heap.size + 3) 3 1 v' (out.length + 1) (lits out ++ [.int .i64 n])) (hg : wr.grownBy w1 v.ownBlock) :
    QSB w a0 a1 p (out ++ [n]) v' (w1.setCell ⟨w.heap.size + 2, 1, none⟩ v') := by
  obtain ⟨h, hb⟩ := h
  have hz := h.size
  refine ⟨⟨(h.below.grown hg (by omega) (fun k hk => by have := (h.own.lt k hk).1; omega)).setCell (p := ⟨w.heap.size + 2, 1, none⟩) (show w.heap.size ≤ w.heap.size + 2 by omega) _, by have := hg.size; simp [World.setCell]; omega, fun _ => trivial, ?_, ?_, ?_⟩, ?_⟩
  · rw [Below.heap_setCell _ _ _ _ (by simp)]; exact (hg.block _ (by omega) (own_ge h.own (by omega))).trans h.res
  · exact block_setCell ((hg.block _ (by omega) (own_ge h.own (by omega))).trans h.var)
  · have := ownsRow_setCell_below hown' (a := ⟨w.heap.size + 2, 1, none⟩) (show w.heap.size + 2 < w.heap.size + 3 by omega) v'
    rw [lits_snoc, List.length_append, List.length_singleton]; exact this
  · rw [Below.heap_setCell _ _ _ _ (by simp)]; exact (hg.block _ (by omega) (own_ge h.own (by omega))).trans hb
theorem QSB.start (w : World) (a0 a1 : Value) (p : Int) : QSB w a0 a1 p [] (.slice none 0 0) (((w.alloc (.cells #[a0, a1] 39)).alloc (.cells #[.int .i64 0, .slice none 0 0] 27)).alloc (.cells #[.int .i64 p, .slice none 0 0] 27)) := by
  obtain ⟨w0, h0⟩ : ∃ w0, w0 = w.alloc (.cells #[a0, a1] 39) := ⟨_, rfl⟩
  obtain ⟨w1, h1⟩ : ∃ w1, w1 = w0.alloc (.cells #[.int .i64 0, .slice none 0 0] 27) := ⟨_, rfl⟩
  have z0 : w0.heap.size = w.heap.size + 1 := by rw [h0]; simp
  have z1 : w1.heap.size = w.heap.size + 2 := by rw [h1]; simp; omega
  rw [← h0, ← h1]
  have b0 : w0.heap[w.heap.size]? = some (.cells #[a0, a1] 39 (0, 0)) := by rw [h0]; exact heap_alloc_new _ _
  have b1 : w1.heap[w.heap.size + 1]? = some (.cells #[.int .i64 0, .slice none 0 0] 27 (0, 0)) := by rw [h1, ← z0]; exact heap_alloc_new _ _
  refine ⟨⟨?_, by simp; omega, fun _ => trivial, ?_, ?_, World.ownsRow_nil _ _ _ _⟩, ?_⟩
  · rw [h1, h0]
    exact (((Below.refl _ _).alloc (Nat.le_refl _) _).alloc (by simp) _).alloc (by simp; omega) _
  · rw [Below.heap_alloc _ _ _ (by omega)]; exact b1
  · rw [← z1]; exact heap_alloc_new _ _
  · rw [Below.heap_alloc _ _ _ (by omega), h1, Below.heap_alloc _ _ _ (by omega)]; exact b0
/-- The end: the pattern is copied into the result. -/
theorem QSB.stop (h : QSB w a0 a1 p out v wr) : ((wr.setCell ⟨w.heap.size + 1, 0, none⟩ (.int .i64 p)).setCell ⟨w.heap.size + 1, 1, none⟩ v).heap[w.heap.size + 1]? = some (.cells #[.int .i64 p, v] 27 (0, 0)) ∧
    OwnInts ((wr.setCell ⟨w.heap.size + 1, 0, none⟩ (.int .i64 p)).setCell ⟨w.heap.size + 1, 1, none⟩ v) w.heap.size v out ∧ Below w.heap.size w ((wr.setCell ⟨w.heap.size + 1, 0, none⟩ (.int .i64 p)).setCell ⟨w.heap.size + 1, 1, none⟩ v) := by
  refine ⟨block_setCell (block_setCell h.1.res), ?_, (h.1.below.setCell (p := ⟨w.heap.size + 1, 0, none⟩) (show w.heap.size ≤ w.heap.size + 1 by omega) _).setCell (p := ⟨w.heap.size + 1, 1, none⟩) (show w.heap.size ≤ w.heap.size + 1 by omega) _⟩
  have h1 := ownsRow_setCell_below (ownsRow_setCell_below h.1.own (a := ⟨w.heap.size + 1, 0, none⟩) (show w.heap.size + 1 < w.heap.size + 3 by omega) (.int .i64 p)) (a := ⟨w.heap.size + 1, 1, none⟩) (show w.heap.size + 1 < w.heap.size + 3 by omega) v
  exact World.ownsRow.mono h1 (by omega)
end

theorem bodyPost_ret3 {P : Program} {fn : Func} {R : Ending → World → Prop} {tmps : Array Value} {w : World} {v : Value} (h : (results fn tmps).run P w = .ok v w) (hR : R (.returned v) w) : bodyPost P fn R .ret { tmps := tmps, defers := [] } w := ⟨rfl, v, h, hR⟩
theorem QSB.same {w wr w1 : World} {a0 a1 : Value} {p : Int} {out : List Int} {v : Value} (h : QSB w a0 a1 p out v wr) (e : w1.heap = wr.heap) (eo : w1.os = wr.os) (et : w1.tape = wr.tape) (ep : w1.output = wr.output) : QSB w a0 a1 p out v w1 := by
  obtain ⟨h, hb⟩ := h
  refine ⟨⟨⟨eo.trans h.below.os, et.trans h.below.tape, ep.trans h.below.output, by rw [e]; exact h.below.size, by rw [e]; exact h.below.block⟩, by rw [e]; exact h.size, fun _ => trivial, by rw [e]; exact h.res, by rw [e]; exact h.var, ?_⟩, by rw [e]; exact hb⟩
  have := h.own; unfold World.ownsRow at *; rw [e]; exact this
theorem cell_heap2 {w w' : World} {a : Addr} {v : Value} (h : w.cell? a = some v) (e : w'.heap = w.heap) : w'.cell? a = some v := (World.cell?_of_block (by rw [e])).trans h

set_option maxRecDepth 100000 in
set_option maxHeartbeats 3200000 in
theorem refShape_any (p : Int) (l : List Slt) (v : Value) (w : World) (hv : SlotsAt w w.heap.size v l) (hl : I64l l) (hn : l.length ≤ 8796093022000) :
    Calls Try.prog 26 #[.agg #[.int .i64 p, v]] w (ShapeIs (shapeB p l) w) := by
  obtain ⟨i3, qi, q0, q1, q2⟩ := info_parts Try.info3
  obtain ⟨a, cap, rfl, ha⟩ := hv.form
  have HV := Lib.hid hv
  have HA := Lib.hid ha
  clear hv ha
  have HS0 := Lib.hid (QSB.start w (.int .i64 p) (.slice a l.length cap) p)
  by_cases hp : p < 0
  · have HR := Lib.hid (shapeB_neg (l := l) hp)
    go_enter Try.func26, Try.ntmps26
    go_wp2
    refine bodyPost_ret (results_cell_row rfl _ _ (w.heap.size + 1) 27 #[.int .i64 (-1), .slice none 0 0] (0, 0) _ rfl ?_ Try.underlying27 rfl Try.size27) rfl ?_
    · rw [Below.heap_alloc _ _ _ (by simp)]
      have := heap_alloc_new (w.alloc (.cells #[.int .i64 p, .slice a l.length cap] 39)) (.cells #[.int .i64 (-1), .slice none 0 0] 27)
      simpa using this
    · refine ⟨.slice none 0 0, by rw [HR.out], by rw [HR.out]; exact OwnInts.nil _ _, (((Below.refl _ _).alloc (Nat.le_refl _) _).alloc (by simp) _).alloc (by simp; omega) _⟩
  · go_enter Try.func26, Try.ntmps26
    go_wp2
    generalize ((w.alloc (.cells #[.int .i64 p, .slice a l.length cap] 39)).alloc (.cells #[.int .i64 0, .slice none 0 0] 27)).alloc (.cells #[.int .i64 p, .slice none 0 0] 27) = W0 at HS0 ⊢
    go_loopw [4] (fun k wr => ∃ (c : List Int) (v : Value) (i : Nat), k = .int .i64 (i : Int) ∧ QSB w (.int .i64 p) (.slice a l.length cap) p c v wr ∧ ShTo l i c) (fun k _ => l.length - (intOf k).toNat)
    case atStart => exact ⟨[], _, 0, rfl, HS0.out, ShTo.start l⟩
    case round =>
      obtain ⟨c, v, i, rfl, hS, hT⟩ := hrel
      have hil := hT.le
      have hclb : c.length ≤ 8796093022000 := by rw [hT.len]; omega
      have HS := Lib.hid hS
      have HT := Lib.hid hT
      have hsz := hS.1.size
      have ka := hS.carg
      clear hS hT
      by_cases h1 : i < l.length
      · obtain ⟨g, off, rfl⟩ := HA.out (ne_of_lt_len h1)
        obtain ⟨b, n, hsi⟩ : ∃ b n, l[i]? = some (b, n) := ⟨l[i].1, l[i].2, List.getElem?_eq_getElem h1⟩
        obtain ⟨hg, c0, c1⟩ := SlotsAt.get (HV.out.below HS.out.1.below) hsi
        have hnb := hl _ (List.mem_of_getElem? hsi)
        simp only at hnb
        have HI := Lib.hid hsi
        clear hsi
        cases b with
        | false =>
          have H1 := Lib.hid (HS.out.alloc (.cells #[.bool false, .int .i64 n] 53))
          have hzA : (wr.alloc (.cells #[.bool false, .int .i64 n] 53)).heap.size = wr.heap.size + 1 := by simp
          by_cases hn0 : n < 0
          · have t0 : (wr.alloc (.cells #[.bool false, .int .i64 n] 53)).cell? ⟨w.heap.size + 1, 0, none⟩ = some (.int .i64 0) := by have := H1.out.1.res; simp only [World.cell?, this]; rfl
            have t1 : (wr.alloc (.cells #[.bool false, .int .i64 n] 53)).cell? ⟨w.heap.size + 1, 1, none⟩ = some (.slice none 0 0) := by have := H1.out.1.res; simp only [World.cell?, this]; rfl
            have f0 : (wr.alloc (.cells #[.bool false, .int .i64 n] 53)).frozen? ⟨w.heap.size + 1, 0, none⟩ = false := by have := H1.out.1.res; simp only [World.frozen?, this]; rfl
            have f1 : (wr.alloc (.cells #[.bool false, .int .i64 n] 53)).frozen? ⟨w.heap.size + 1, 1, none⟩ = false := by have := H1.out.1.res; simp only [World.frozen?, this]; rfl
            have HR := Lib.hid (shapeB_bad (p := p) HI.out hn0)
            go_wp2
            refine bodyPost_ret (results_cell_row rfl _ _ (w.heap.size + 1) 27 #[.int .i64 (-1), .slice none 0 0] (0, 0) _ rfl ?_ Try.underlying27 rfl Try.size27) rfl ?_
            · exact block_setCell (block_setCell H1.out.1.res)
            · refine ⟨.slice none 0 0, by rw [HR.out], by rw [HR.out]; exact OwnInts.nil _ _, (H1.out.1.below.setCell (p := ⟨w.heap.size + 1, 0, none⟩) (show w.heap.size ≤ w.heap.size + 1 by omega) _).setCell (p := ⟨w.heap.size + 1, 1, none⟩) (show w.heap.size ≤ w.heap.size + 1 by omega) _⟩
          · have k1 := H1.out.cvar
            have HT2 := Lib.hid (HT.out.const HI.out (by omega))
            go_wp2_with (at_builtin; refine wpList_append_own _ rfl _ _ 25 rfl (w.heap.size + 3) 3 i3 (.int .i64 0) 1 8 Try.underlying25 qi q0 q1 q2 rfl (by decide) v c.length (lits c) rfl (H1.out.alloc (.cells #[.int .i64 n] 3)).1.own ⟨wr.heap.size + 1, 0, none⟩ 1 1 [.int .i64 n] rfl rfl (by rw [← hzA]; exact cell_one_new _ _ _) (one_i64 _) (by unfold maxLen; omega) (by omega) (by simp; omega) ?_; intro v' w1 hown' hgrow hnl; obtain ⟨g', c', rfl⟩ := Joins.ownsRow_form hown' (by omega); have hw3 := (H1.out.alloc (.cells #[.int .i64 n] 3)).grown hgrow; have k1 := qvar_of hw3; have hf := qfre_of hw3)
            have HP := Lib.hid ((H1.out.alloc (.cells #[.int .i64 n] 3)).push hown' hgrow)
            go_roundw
            case rel => exact ⟨c ++ [n], _, i + 1, by go_num, HP.out, HT2.out⟩
            case measure => simp only [intOf]; omega
        | true =>
          have hfle := firstV_le HI.out
          obtain ⟨f, hf⟩ : ∃ f, firstV l n = f := ⟨_, rfl⟩
          rw [hf] at hfle
          have hfl : f < l.length := by omega
          have HF := Lib.hid hf
          have HT2 := Lib.hid (HT.out.var HI.out hf)
          clear hf
          obtain ⟨Z, hZ⟩ : ∃ Z, Z = wr.heap.size := ⟨_, rfl⟩
          go_wp2
          generalize hwa : wr.alloc (.cells #[.bool true, .int .i64 n] 53) = wa
          have bH : wa.heap[Z]? = some (.cells #[.bool true, .int .i64 n] 53 (0, 0)) := by rw [← hwa, hZ]; exact heap_alloc_new _ _
          have bA := Lib.hid (show wa.cell? ⟨Z, 1, none⟩ = some (.int .i64 n) by simp only [World.cell?, bH]; rfl)
          have H1 := Lib.hid (show QSB w (.int .i64 p) (.slice (some ⟨g, off, none⟩) l.length cap) p c v wa by rw [← hwa]; exact HS.out.alloc _)
          have HSL := Lib.hid (show SlotsAt wa w.heap.size (.slice (some ⟨g, off, none⟩) l.length cap) l from HV.out.below H1.out.1.below)
          rw [← hZ]
          clear hwa bH c0 c1 ka HS hZ
          go_loopw [6] (fun k wx => ∃ j : Nat, k = .int .i64 (j : Int) ∧ j ≤ f ∧ wx.heap = wa.heap ∧ wx.os = wa.os ∧ wx.tape = wa.tape ∧ wx.output = wa.output) (fun k _ => f - (intOf k).toNat)
          case atStart => exact ⟨0, rfl, Nat.zero_le _, rfl, rfl, rfl, rfl⟩
          case round =>
            obtain ⟨j, rfl, hjf, hh, ho, ht, hq⟩ := hrel
            obtain ⟨b2, m, hsj⟩ : ∃ b2 m, l[j]? = some (b2, m) := ⟨(l[j]'(by omega)).1, (l[j]'(by omega)).2, List.getElem?_eq_getElem (by omega)⟩
            obtain ⟨_, d0, d1⟩ := SlotsAt.get HSL.out hsj
            have d0 := cell_heap2 d0 hh
            have d1 := cell_heap2 d1 hh
            have d2 := cell_heap2 bA.out hh
            have d3 := cell_heap2 H1.out.carg hh
            have j0 : (0 : Int) ≤ (j : Int) := Int.natCast_nonneg _
            have j1 : (j : Int) < (l.length : Int) := by omega
            have HH := Lib.hid (And.intro hh (And.intro ho (And.intro ht hq)))
            clear hh ho ht hq
            by_cases hjq : j < f
            · cases b2 with
              | false =>
                clear hsj
                go_wp2_with fail
                go_quiet (fail)
                generalize hW : wr.drewN _ = w2
                have H2 := Lib.hid (show w2.heap = wa.heap ∧ w2.os = wa.os ∧ w2.tape = wa.tape ∧ w2.output = wa.output by rw [← hW]; exact HH.out)
                clear hW d0 d1 d2 d3
                go_wp2
                go_roundw
                case rel => exact ⟨j + 1, by go_num, by omega, H2.out⟩
                case measure => simp only [intOf]; omega
              | true =>
                have hmn : m ≠ n := fun e => by
                  subst e
                  have := firstV_le hsj
                  rw [HF.out] at this
                  omega
                have hb : (m != n) = true := by simpa using hmn
                clear hsj hmn
                go_wp2_with fail
                go_quiet (fail)
                generalize hW : wr.drewN _ = w2
                have H2 := Lib.hid (show w2.heap = wa.heap ∧ w2.os = wa.os ∧ w2.tape = wa.tape ∧ w2.output = wa.output by rw [← hW]; exact HH.out)
                clear hW d0 d1 d2 d3
                go_wp2
                go_roundw
                case rel => exact ⟨j + 1, by go_num, by omega, H2.out⟩
                case measure => simp only [intOf]; omega
            · have e : j = f := by omega
              subst e
              have hat := firstV_at (l := l) (n := n) (by rw [HF.out]; exact hfl)
              rw [HF.out, hsj] at hat
              simp only [Option.some.injEq, Prod.mk.injEq] at hat
              obtain ⟨rfl, rfl⟩ := hat
              have hb : (m != m) = false := by simp
              clear hsj
              go_wp2_with fail
              go_quiet (fail)
              generalize hW : wr.drewN _ = w2
              have H2 := Lib.hid (show QSB w (.int .i64 p) (.slice (some ⟨g, off, none⟩) l.length cap) p c v w2 by rw [← hW]; exact H1.out.same HH.out.1 HH.out.2.1 HH.out.2.2.1 HH.out.2.2.2)
              have hsz2 := H2.out.1.size
              have k1 := H2.out.cvar
              clear hW d0 d1 d2 d3 HH hb
              go_wp2_with (at_builtin; refine wpList_append_own _ rfl _ _ 25 rfl (w.heap.size + 3) 3 i3 (.int .i64 0) 1 8 Try.underlying25 qi q0 q1 q2 rfl (by decide) v c.length (lits c) rfl (H2.out.alloc (.cells #[.int .i64 (-1 - (j : Int))] 3)).1.own ⟨w2.heap.size, 0, none⟩ 1 1 [.int .i64 (-1 - (j : Int))] rfl rfl (cell_one_new _ _ _) (one_i64 _) (by unfold maxLen; omega) (by omega) (by simp; omega) ?_; intro v' w1 hown' hgrow hnl; obtain ⟨g', c', rfl⟩ := Joins.ownsRow_form hown' (by omega); have hw3 := (H2.out.alloc (.cells #[.int .i64 (-1 - (j : Int))] 3)).grown hgrow; have k1 := qvar_of hw3; have hf := qfre_of hw3)
              have HP := Lib.hid ((H2.out.alloc (.cells #[.int .i64 (-1 - (j : Int))] 3)).push hown' hgrow)
              go_roundw
              case rel => exact ⟨c ++ [-1 - (j : Int)], _, i + 1, by go_num, HP.out, HT2.out⟩
              case measure => simp only [intOf]; omega
      · have e : i = l.length := by omega
        have HR := Lib.hid (show shapeB p l = ⟨p, c⟩ by have := HT.out; rw [e] at this; exact this.stop (by omega))
        have v0 : wr.cell? ⟨w.heap.size + 2, 0, none⟩ = some (.int .i64 p) := by have := HS.out.1.var; simp only [World.cell?, this]; rfl
        have v1 := HS.out.cvar
        have t0 : wr.cell? ⟨w.heap.size + 1, 0, none⟩ = some (.int .i64 0) := by have := HS.out.1.res; simp only [World.cell?, this]; rfl
        have t1 : wr.cell? ⟨w.heap.size + 1, 1, none⟩ = some (.slice none 0 0) := by have := HS.out.1.res; simp only [World.cell?, this]; rfl
        have f0 : wr.frozen? ⟨w.heap.size + 1, 0, none⟩ = false := by have := HS.out.1.res; simp only [World.frozen?, this]; rfl
        have f1 : wr.frozen? ⟨w.heap.size + 1, 1, none⟩ = false := by have := HS.out.1.res; simp only [World.frozen?, this]; rfl
        obtain ⟨av, nv, cv, rfl⟩ := OwnInts.form (l := c) HS.out.1.own
        clear e
        go_wp2
        obtain ⟨s1, s2, s3⟩ := HS.out.stop
        exact bodyPost_ret3 (results_cell_row rfl _ _ (w.heap.size + 1) 27 #[.int .i64 p, .slice av nv cv] (0, 0) _ rfl s1 Try.underlying27 rfl Try.size27) ⟨_, by rw [HR.out], by rw [HR.out]; exact s2, s3⟩

end Go.Proofs.Ytlandkindbmbfaa
/-
  The walks of edictref10.has and edictref10.Distinct: whether a shape stands in a list; the patterns' shapes, each once. Conditions: the numbers are ints, the lists within the form's own reach.
-/
namespace Go.Proofs.Ytlandkindbmbfaa
open Go.RowKit Plain

set_option maxRecDepth 100000 in
set_option maxHeartbeats 1600000 in
theorem has_any (ss : List Shp) (v : Value) (s : Shp) (u : Value) (w : World) (hv : ShpsAt w w.heap.size v ss) (hss : Okays ss) (hn : ss.length ≤ 4398046510976) (hu : IntsAt w w.heap.size u s.cells) (hs : Okay s) :
    Calls Try.prog 54 #[v, .agg #[.int .i64 s.pred, u]] w (BoolIs w (standsB ss s)) := by
  obtain ⟨b, cb, rfl, _⟩ := id hu
  obtain ⟨W0, hW0⟩ : ∃ W0, W0 = w.alloc (.cells #[.int .i64 s.pred, .slice b s.cells.length cb] 27) := ⟨_, rfl⟩
  have HB0 := Lib.hid (show Below w.heap.size w W0 by rw [hW0]; exact up_alloc _ _)
  have HX := Lib.hid (show ShBox W0 w.heap.size s (.slice b s.cells.length cb) by rw [hW0]; exact ShBox.made hu)
  have HV := Lib.hid ((hv.below HB0.out).mono HB0.out.size)
  obtain ⟨a, ca, rfl, ha⟩ := hv.form
  have HA := Lib.hid ha
  clear hu hv ha
  go_enter Try.func54, Try.ntmps54
  go_wp2
  rw [← hW0]
  clear hW0
  go_loopw [5] (fun k wr => ∃ i : Nat, k = .int .i64 (i : Int) ∧ i ≤ ss.length ∧ Below W0.heap.size W0 wr ∧ Hid (NoTo ss s i)) (fun k _ => ss.length - (intOf k).toNat)
  case atStart => exact ⟨0, rfl, Nat.zero_le _, Below.refl _ _, NoTo.start _ _⟩
  case round =>
    obtain ⟨i, rfl, hil, hnx, hE⟩ := hrel
    have NX := Lib.hid hnx
    clear hnx
    by_cases h1 : i < ss.length
    · obtain ⟨g, off, rfl⟩ := HA.out (ne_of_lt_len h1)
      obtain ⟨t, hti⟩ : ∃ t, ss[i]? = some t := ⟨ss[i]'h1, List.getElem?_eq_getElem h1⟩
      obtain ⟨hg, x, c0, c1, hx, _⟩ := ShpsAt.get (HV.out.below NX.out) hti
      have hok := hss t (List.mem_of_getElem? hti)
      have HXI := Lib.hid (hx.mono NX.out.size)
      have HSB := Lib.hid (HX.out.below NX.out)
      have HTI := Lib.hid hti
      obtain ⟨ax, cx, rfl, _⟩ := HXI.out
      have d0 := HSB.out.1
      have d1 := HSB.out.2.1
      have i1 : (i : Int) < (ss.length : Int) := by omega
      clear hx hti
      go_wp2_with fail
      go_still_tail 5, (by kernel_rfl)
      change wpList _ _ _ _ _ wr.drew
      generalize hW : wr.drew = w2
      have NX2 := Lib.hid (show Below W0.heap.size W0 w2 by rw [← hW]; exact Below.drew NX.out)
      have HX2 := Lib.hid (show IntsAt w2 w2.heap.size _ t.cells by rw [← hW]; exact HXI.out.heap rfl)
      have HS2 := Lib.hid (show IntsAt w2 w2.heap.size _ s.cells by rw [← hW]; exact HSB.out.2.2.1.heap rfl)
      clear hW c0 c1 d0 d1 HXI HSB NX
      go_wp2_with fail
      refine (refSame_any t s _ _ w2 ⟨_, rfl, HX2.out⟩ ⟨_, rfl, HS2.out⟩ hok.1 hs).mono ?_
      rintro e w3 ⟨rfl, hb3⟩
      rw [sameB_symm]
      have NX3 := Lib.hid (NX2.out.trans (hb3.mono NX2.out.size))
      clear hb3
      cases hst : sameB s t with
      | true =>
        have HR := Lib.hid (stands_yes HTI.out hst)
        clear hst
        go_wp2
        go_ret
        exact ⟨ret_bool HR.out.symm, HB0.out.trans (NX3.out.mono HB0.out.size)⟩
      | false =>
        have HE := Lib.hid (hE.out.round HTI.out hst)
        clear hst hE
        go_wp2
        go_roundw
        case rel => exact ⟨i + 1, by go_num, by omega, NX3.out, HE.out⟩
        case measure => simp only [intOf]; omega
    · have e : i = ss.length := by omega
      have HR := Lib.hid (stands_no (by rw [← e]; exact hE.out))
      clear e hE
      go_wp2
      go_ret
      exact ⟨ret_bool HR.out.symm, HB0.out.trans (NX.out.mono HB0.out.size)⟩

set_option maxRecDepth 100000 in
set_option maxHeartbeats 3200000 in
theorem refDistinct_any (ps : List Pt) (v : Value) (w : World) (hv : PatsAt w w.heap.size v ps) (hps : OkPats ps) (hn : ps.length ≤ 4398046510976) :
    Calls Try.prog 28 #[v] w (DistIs ps w) := by
  obtain ⟨i27, pi, p0, p1, p2⟩ := info_parts Try.info27'
  obtain ⟨a, cap, rfl, ha⟩ := hv.form
  have HV := Lib.hid hv
  have HA := Lib.hid ha
  clear hv ha
  go_enter Try.func28, Try.ntmps28
  go_wp2
  go_loopw [3, 4] (fun v k wr => DistRel ps w v k wr) (fun _ k _ => ps.length - (intOf k).toNat)
  case atStart => exact ⟨_, 0, rfl, rfl, Nat.zero_le _, Below.refl _ _, OwnShps.nil _ _⟩
  case round =>
    obtain ⟨v, i, rfl, rfl, hil, hnx, hown⟩ := hrel
    have NX := Lib.hid hnx
    have hsz := hnx.size
    clear hnx
    by_cases h1 : i < ps.length
    · obtain ⟨g, off, rfl⟩ := HA.out (ne_of_lt_len h1)
      obtain ⟨x, hxi⟩ : ∃ x, ps[i]? = some x := ⟨ps[i]'h1, List.getElem?_eq_getElem h1⟩
      obtain ⟨hg, u, c0, c1, hu⟩ := PatsAt.get (HV.out.below NX.out) hxi
      have hok := hps x (List.mem_of_getElem? hxi)
      have hsok := shp_okay hok
      have HD := Lib.hid (distB_next hxi)
      have hdo := dist_okays hps i
      obtain ⟨acc, hacc⟩ : ∃ acc, acc = distB (ps.take i) := ⟨_, rfl⟩
      rw [← hacc] at hown hdo HD
      have hal : acc.length ≤ i := by rw [hacc]; refine Nat.le_trans (distB_len _) ?_; rw [List.length_take]; omega
      obtain ⟨au, cu, rfl, _⟩ := hu.form
      have HU := Lib.hid (hu.mono hsz)
      have HO := Lib.hid hown
      clear hacc hown hu hxi
      go_wp2_with fail
      refine (refShape_any x.1 x.2 _ wr HU.out hok.2.1 hok.2.2).mono ?_
      rintro e w2 ⟨vs, rfl, hos, hb2⟩
      obtain ⟨aS, ns, cs, rfl⟩ := hos.form
      have IS := Lib.hid hos.at
      have HOS := Lib.hid (hos.mono hsz)
      have N2 := Lib.hid (NX.out.trans (hb2.mono hsz))
      have O2 := Lib.hid (HO.out.up hb2)
      clear hos hb2 c0 c1 NX HO
      have hshp : shapeB x.1 x.2 = shp x := rfl
      rw [hshp] at IS HOS ⊢
      obtain ⟨s, hs⟩ : ∃ s, s = shp x := ⟨_, rfl⟩
      rw [← hs] at IS HOS hsok ⊢
      have HSX := Lib.hid hs
      have h2z := N2.out.size
      clear hs hshp
      have HVI := Lib.hid (show validB s = decide (0 ≤ s.pred) by rw [HSX.out]; exact shape_valid_iff x.1 x.2)
      go_wp2_with fail
      generalize hx : w2.alloc (.cells #[.int .i64 s.pred, .slice aS ns cs] 27) = w3
      have hb : Below w2.heap.size w2 w3 := by rw [← hx]; exact up_alloc _ _
      have SBx := Lib.hid (show ShBox w3 w2.heap.size s (.slice aS ns cs) by rw [← hx]; exact ShBox.made IS.out)
      have N3 := Lib.hid (N2.out.trans (hb.mono h2z))
      have O3 := Lib.hid (O2.out.up hb)
      have HOS3 := Lib.hid (HOS.out.kept (World.grownBy_alloc w2 (.cells #[.int .i64 s.pred, .slice aS ns cs] 27) none) (lt_of_own HOS.out (.inl rfl)))
      rw [hx] at HOS3
      clear hx hb O2 HOS IS
      refine (refValid_any s _ w3 SBx.out.2.2.1 hsok.1.ints hsok.1.len).mono ?_
      rintro e w3b ⟨rfl, hbv⟩
      rw [HVI.out]
      replace O3 := Lib.hid (O3.out.up hbv)
      replace SBx := Lib.hid (SBx.out.below hbv)
      replace HOS3 := Lib.hid (show OwnInts w3b w.heap.size (.slice aS ns cs) s.cells from World.ownsRow.kept HOS3.out ⟨hbv.os, hbv.tape, hbv.output, hbv.size, fun k hk _ => hbv.block k hk⟩ (lt_of_own HOS3.out (.inl rfl)))
      replace N3 := Lib.hid (N3.out.trans (hbv.mono N3.out.size))
      clear hbv
      by_cases hp : s.pred < 0
      · have HN := Lib.hid (show distB (ps.take (i + 1)) = acc by rw [HD.out]; exact stepD_neg (by rw [← HSX.out]; exact hp))
        rw [decide_eq_false (show ¬ 0 ≤ s.pred by omega)]
        go_wp2
        go_roundw
        case rel => exact ⟨_, i + 1, rfl, by go_num, by omega, N3.out, by rw [HN.out]; exact O3.out⟩
        case measure => simp only [intOf]; omega
      · rw [decide_eq_true (show 0 ≤ s.pred by omega)]
        have q0 := SBx.out.1
        have q1 := SBx.out.2.1
        go_wp2_with fail
        clear q0 q1
        refine (has_any acc v s _ w3b O3.out.at hdo (by omega) SBx.out.2.2.1 hsok.1).mono ?_
        rintro e w4 ⟨rfl, hb4⟩
        have h3z := N3.out.size
        have N4 := Lib.hid (N3.out.trans (hb4.mono h3z))
        have O4 := Lib.hid (O3.out.up hb4)
        have SB4 := Lib.hid (SBx.out.below hb4)
        have HOS4 := Lib.hid (show OwnInts w4 w.heap.size (.slice aS ns cs) s.cells from World.ownsRow.kept HOS3.out ⟨hb4.os, hb4.tape, hb4.output, hb4.size, fun k hk _ => hb4.block k hk⟩ (lt_of_own HOS3.out (.inl rfl)))
        clear hb4 O3 SBx HOS3
        cases hst : standsB acc s with
        | true =>
          have HN := Lib.hid (show distB (ps.take (i + 1)) = acc by rw [HD.out]; exact stepD_old (by rw [← HSX.out]; exact hst))
          clear hst
          go_wp2
          go_roundw
          case rel => exact ⟨_, i + 1, rfl, by go_num, by omega, N4.out, by rw [HN.out]; exact O4.out⟩
          case measure => simp only [intOf]; omega
        | false =>
          have HN := Lib.hid (show distB (ps.take (i + 1)) = acc ++ [s] by rw [HD.out, HSX.out]; exact stepD_yes (by rw [← HSX.out]; omega) (by rw [← HSX.out]; exact hst))
          obtain ⟨vl, hvl, ho, hoi⟩ := O4.out
          have HOI := Lib.hid hoi
          have k0 := SB4.out.1
          have k1 := SB4.out.2.1
          have h4z := N4.out.size
          have hone := one_shape s.pred HOS4.out
          clear hst hoi O4
          go_wp2_with (at_builtin; refine wpList_append_own _ rfl _ _ 22 rfl w.heap.size 27 i27 (.agg #[.int .i64 0, .slice none 0 0]) 2 32 Try.underlying22 pi p0 p1 p2 rfl (by decide) v acc.length (flat acc vl) rfl (ho.alloc _) ⟨w4.heap.size, 0, none⟩ 1 1 [.int .i64 s.pred, .slice aS ns cs] rfl rfl (World.news_of_block (cs := #[.int .i64 s.pred, .slice aS ns cs]) (t := 27) (fr := (0, 0)) (heap_alloc_new w4 _)) hone (by unfold maxLen; omega) (by omega) (by simp; omega) ?_; intro v' w5 hown' hgrow hnl)
          have R := OwnShps.snoc hvl (ho.alloc (.cells #[.int .i64 s.pred, .slice aS ns cs] 27)) (fun j t x e1 e2 => World.ownsRow.alloc (HOI.out j t x e1 e2) _) (World.ownsRow.alloc HOS4.out _) hown' hgrow
          have hbl : Below w.heap.size w w5 := (N4.out.alloc h4z _).grown hgrow (by simp; omega) (fun k hk => (ho.lt k hk).1)
          go_roundw
          case rel => exact ⟨_, i + 1, rfl, by go_num, by omega, hbl, by rw [HN.out]; exact R⟩
          case measure => simp only [intOf]; omega
    · have e : i = ps.length := by omega
      have HO := Lib.hid (show OwnShps wr w.heap.size v (distB ps) by rw [e, List.take_length] at hown; exact hown)
      clear e hown
      go_wp2
      go_ret
      exact ⟨_, rfl, HO.out, NX.out⟩


end Go.Proofs.Ytlandkindbmbfaa
/-
  The walk of edictref10.New: there is a net just where each shape is valid and stands there once; it has its own copies. Conditions: the numbers are ints, the lists within the form's own reach.
-/
namespace Go.Proofs.Ytlandkindbmbfaa
open Go.RowKit Plain
attribute [local go_sem ↓] Go.wp_at_zero Go.wp_at_succ

theorem OwnShps.keep {w w' : World} {B : Nat} {v : Value} {ss : List Shp} (h : OwnShps w B v ss) (hb : ∀ k, B ≤ k → k < w.heap.size → w'.heap[k]? = w.heap[k]?) : OwnShps w' B v ss := by
  obtain ⟨vs, hl, ho, hi⟩ := h
  exact ⟨vs, hl, row_keep ho (fun k hk => hb k (World.ownsRow.lt ho k hk).1 (World.ownsRow.lt ho k hk).2), fun j s u h1 h2 => row_keep (hi j s u h1 h2) (fun k hk => hb k (World.ownsRow.lt (hi j s u h1 h2) k hk).1 (World.ownsRow.lt (hi j s u h1 h2) k hk).2)⟩

/-- The document's net in the making. -/
structure RMake (wb : World) (X2 : Nat) (ss : List Shp) (i : Nat) (sv : Value) (wr : World) : Prop where
  box : wr.heap[X2]? = some (.cells #[sv, .slice none 0 0] 98 (0, 0))
  own : OwnShps wr (X2 + 1) sv (ss.take i)
  below : Below wb.heap.size wb wr
  ge : wb.heap.size ≤ X2
section
variable {wb wr w1 w2 : World} {X2 i : Nat} {ss : List Shp} {s : Shp} {sv sv' u : Value}
theorem RMake.start (w : World) (ss : List Shp) : RMake w w.heap.size ss 0 (.slice none 0 0) (w.alloc (.cells #[.slice none 0 0, .slice none 0 0] 98)) :=
  ⟨heap_alloc_new _ _, OwnShps.nil _ _, up_alloc _ _, Nat.le_refl _⟩
theorem RMake.lt (h : RMake wb X2 ss i sv wr) : X2 < wr.heap.size := lt_of_block h.box
theorem RMake.up (h : RMake wb X2 ss i sv wr) (hb : Below wr.heap.size wr w1) : RMake wb X2 ss i sv w1 :=
  ⟨(hb.block X2 h.lt).trans h.box, h.own.up hb, h.below.trans (hb.mono h.below.size), h.ge⟩
theorem RMake.c0 (h : RMake wb X2 ss i sv wr) : wr.cell? ⟨X2, 0, none⟩ = some sv := by have := h.box; simp only [World.cell?, this]; rfl
theorem RMake.atGrown (h : RMake wb X2 ss i sv w1) (hg : w1.grownBy w2 sv.ownBlock) : w2.cell? ⟨X2, 0, none⟩ = some sv ∧ w2.frozen? ⟨X2, 0, none⟩ = false := by
  obtain ⟨vs, hl, ho, _⟩ := h.own
  have e : w2.heap[X2]? = some (.cells #[sv, .slice none 0 0] 98 (0, 0)) := (hg.block X2 h.lt (fun e => by have := (World.ownsRow.lt ho X2 e.symm).1; omega)).trans h.box
  exact ⟨by simp only [World.cell?, e]; rfl, by simp only [World.frozen?, e]; rfl⟩
theorem RMake.gone (h : RMake wb X2 ss i sv wr) {n : Nat} {xs : List Value} (ho : wr.ownsRow (X2 + 1) 27 2 sv n xs) (hb : Below wr.heap.size wr w1) (hg : w1.grownBy w2 sv.ownBlock) : Below wb.heap.size wb w2 :=
  Below.grown (h.below.trans (hb.mono h.below.size)) hg (Nat.le_trans h.below.size hb.size) (fun k hk => by have := (World.ownsRow.lt ho k hk).1; have := h.ge; omega)
/-- One shape more. -/
theorem RMake.push (h : RMake wb X2 ss i sv wr) (hs : ss[i]? = some s) {vs : List Value} (hl : vs.length = i) (ho : wr.ownsRow (X2 + 1) 27 2 sv i (flat (ss.take i) vs))
    (hi : ∀ (j : Nat) (t : Shp) (x : Value), (ss.take i)[j]? = some t → vs[j]? = some x → OwnInts wr (X2 + 1) x t.cells) (hb : Below wr.heap.size wr w1) (hu : OwnInts w1 wr.heap.size u s.cells) (hg : w1.grownBy w2 sv.ownBlock)
    (hown : w2.ownsRow (X2 + 1) 27 2 sv' (i + 1) (flat (ss.take i) vs ++ [.int .i64 s.pred, u])) : RMake wb X2 ss (i + 1) sv' (w2.setCell ⟨X2, 0, none⟩ sv') := by
  have hx := h.lt
  have hti : (ss.take i).length = i := by have := (List.getElem?_eq_some_iff.1 hs).1; rw [List.length_take]; omega
  have hrlt : ∀ k, sv.ownBlock = some k → X2 + 1 ≤ k := fun k hk => (World.ownsRow.lt ho k hk).1
  have hbox : w2.heap[X2]? = some (.cells #[sv, .slice none 0 0] 98 (0, 0)) := (hg.block X2 (Nat.lt_of_lt_of_le hx hb.size) (fun e => by have := hrlt X2 e.symm; omega)).trans ((hb.block X2 hx).trans h.box)
  refine ⟨by rw [block_setCell hbox]; rfl, ?_, ?_, h.ge⟩
  · have hsn := OwnShps.snoc (v := sv) (s := s) (vs := vs) (ss := ss.take i) (w := w1) (B := X2 + 1) (by rw [hti]; exact hl) (by rw [hti]; exact row_keep ho (fun k hk => hb.block k (World.ownsRow.lt ho k hk).2))
      (fun j t x e1 e2 => row_keep (hi j t x e1 e2) (fun k hk => hb.block k (World.ownsRow.lt (hi j t x e1 e2) k hk).2)) (hu.mono (by omega)) (by rw [hti]; exact hown) hg
    rw [take_one hs]
    exact hsn.keep (fun k hk1 hk2 => Below.heap_setCell _ _ _ _ (fun e => by simp only at e; omega))
  · refine Below.setCell (Below.grown (h.below.trans (hb.mono h.below.size)) hg (Nat.le_trans h.below.size hb.size) (fun k hk => ?_)) h.ge _
    have := hrlt k hk
    have := h.ge
    omega
end

/-- append of a list of numbers, nil or not, at a step of a region that draws. -/
theorem step_append_ints {P : Program} (w : World) {ops : Array Oper} {o : Oper} {a : Act} {K : Act → World → Prop} {Q : Exit → Act → World → Prop} {E : Prop} (hgd : o.guard = none) (s x : Operand) (t : TypeId)
    (ho : o.op = .call { callee := .builtin .append, args := #[s, x], argTypes := #[t, t] })
    (base : Nat) (i : TypeInfo) (ht : P.underlying t = some (.slice 3)) (hi : P.info? 3 = some i) (hz : i.zero = some (.int .i64 0)) (hsize : i.size = 1) (hby : i.bytes = 8)
    (v : Value) (n : Nat) (xs : List Value) (hs : a.eval s = v) (hown : w.ownsRow base 3 1 v n xs) (u : Value) (l : List Int) (hx : a.eval x = u) (hu : IntsAt w w.heap.size u l) (hny : Nilly u) (hv : v ≠ .slice none 0 0)
    (h63 : n + l.length ≤ 17592186044416) (hbase : base ≤ w.heap.size)
    (h : ∀ v' w', w'.ownsRow base 3 1 v' (n + l.length) (xs ++ lits l) → w.grownBy w' v.ownBlock → v' ≠ .slice none 0 0 → K (a.put o.dst v') w') :
    if Region.wanted o (yielded ops a.tmps) = true then Oper.wp P o a w K Q else E := by
  obtain ⟨au, cu, rfl, _⟩ := id hu
  rcases au with _ | ad
  · obtain ⟨e1, e2⟩ := hny _ _ rfl
    have hl : l = [] := List.length_eq_zero_iff.1 e1
    subst hl e2
    exact step_append_own_none w hgd s x t ho base 3 i 1 ht hi v n xs hs hown hx (h v w (by simpa [lits] using hown) ⟨rfl, rfl, rfl, Nat.le_refl _, fun _ _ _ => rfl⟩ hv)
  · exact step_append_own w hgd s x t ho base 3 i (.int .i64 0) 1 8 ht hi hz hsize hby rfl (by decide) v n xs hs hown ad l.length cu (lits l) hx (by rw [lits_length, Nat.mul_one]) hu.news (lits_one _) (by unfold maxLen; omega) (by omega) hbase
      (fun v' w' h1 h2 h3 => h v' w' h1 h2 (fun e => hv (h3.1 e).1))

def RNewIs (ss : List Shp) (w : World) (e : Ending) (w' : World) : Prop :=
  (newB ss = false ∧ e = .returned (.tuple #[.pointer none, .int .i64 2]) ∧ Below w.heap.size w w') ∨
  (newB ss = true ∧ ∃ X2 sv, e = .returned (.tuple #[.pointer (some ⟨X2, 0, none⟩), .int .i64 0]) ∧ w.heap.size ≤ X2 ∧ w'.heap[X2]? = some (.cells #[sv, .slice none 0 0] 98 (0, 0)) ∧ OwnShps w' (X2 + 1) sv ss ∧ Below w.heap.size w w')

set_option maxRecDepth 100000 in
set_option maxHeartbeats 6400000 in
theorem rnew_any (ss : List Shp) (u : Value) (w : World) (hu : ShpsAt w w.heap.size u ss) (hcap : ∀ a n c, u = .slice a n c → n ≤ c) (hss : Okays ss) (hn : ss.length ≤ 4398046510976) :
    Calls Try.prog 34 #[u] w (RNewIs ss w) := by
  obtain ⟨i3, qi, q0, q1, q2⟩ := info_parts Try.info3
  obtain ⟨i27, pi, p0, p1, p2⟩ := info_parts Try.info27
  obtain ⟨a, c, rfl, ha⟩ := hu.form
  have hc := hcap _ _ _ rfl
  have HV := Lib.hid hu
  have HA := Lib.hid ha
  have HSS := Lib.hid hss
  clear hu ha hcap hss
  go_enter Try.func34, Try.ntmps34
  go_wp2
  go_loopw [4] (fun k wr => ∃ i : Nat, k = .int .i64 (i : Int) ∧ i ≤ ss.length ∧ Hid (Below w.heap.size w wr) ∧ Hid (NewTo ss i)) (fun k _ => ss.length - (intOf k).toNat)
  case atStart => exact ⟨0, rfl, Nat.zero_le _, Lib.hid (Below.refl _ _), Lib.hid (NewTo.start ss)⟩
  case round =>
    obtain ⟨i, rfl, hil, NX, hT⟩ := hrel
    have hsz := NX.out.size
    by_cases h1 : i < ss.length
    · obtain ⟨g, off, rfl⟩ := HA.out (ne_of_lt_len h1)
      obtain ⟨s, hs⟩ : ∃ s, ss[i]? = some s := ⟨ss[i]'h1, List.getElem?_eq_getElem h1⟩
      have HV1 := Lib.hid (HV.out.below NX.out)
      obtain ⟨au, cu, ex⟩ := ShpsAt.el (j := i) HV1.out hsz hs
      have EX := Lib.hid ex
      have HCUT := Lib.hid (ShpsAt.cut HV1.out (Nat.le_of_lt h1))
      have hok := HSS.out s (List.mem_of_getElem? hs)
      have HSI := Lib.hid hs
      have hic : (i : Int) ≤ (c : Int) := by omega
      have i0 : (0 : Int) ≤ (i : Int) := Int.natCast_nonneg _
      have i1 : (i : Int) < (ss.length : Int) := by omega
      have k0 := EX.out.c0
      have k1 := EX.out.c1
      clear hs ex
      cases hva : validB s with
      | false =>
        have HR := Lib.hid (newB_invalid HSI.out hva)
        have HVA := Lib.hid hva
        clear hva
        go_wp2_with fail
        refine wp_region_any (by kernel_rfl) ?_
        change wpAny _ _ _ _ _ _ _ (World.drew _)
        refine wpAny_take (i := 0) (v := ?_) rfl (by kernel_rfl) (by kernel_rfl) (by kernel_rfl) (fun _ _ _ h => h) (Or.inl ⟨by kernel_rfl, ?_⟩) ?_
        rotate_left
        · intro w; go_simp; try with_reducible rfl
        change wpAny _ _ _ _ _ _ (Act.put _ (some 13) _) _
        refine wpAny_take (i := 1) (v := ?_) rfl (by kernel_rfl) (by kernel_rfl) (by kernel_rfl) (fun _ _ _ h => h) (Or.inl ⟨by kernel_rfl, ?_⟩) ?_
        rotate_left
        · intro w; go_simp; try with_reducible rfl
        change wpAny _ _ _ _ _ _ (Act.put _ (some 14) _) _
        refine wpAny_take (i := 2) (v := ?_) rfl (by kernel_rfl) (by kernel_rfl) (by kernel_rfl) (fun _ _ _ h => h) (Or.inl ⟨by kernel_rfl, ?_⟩) ?_
        rotate_left
        · intro w; go_simp; try with_reducible rfl
        change wpAny _ _ _ _ _ _ (Act.put _ (some 15) _) _
        refine wpAny_ready (rs := [3]) (by kernel_rfl) (by simp) ?_
        refine AllReady.cons rfl (fun K hK => ?_) AllReady.nil
        go_simp
        refine hK _ _ ?_
        clear hK K
        refine wpAny_ready (rs := [4]) (by kernel_rfl) (by simp) ?_
        refine AllReady.cons rfl (fun K hK => ?_) AllReady.nil
        go_simp
        go_at_call 18
        refine (refValid_any s _ _ (by exact EX.out.ints) hok.1.ints hok.1.len).mono ?_
        rintro e w3 ⟨rfl, hb3'⟩
        rw [HVA.out]
        have hb3 : Below wr.heap.size wr w3 := ⟨hb3'.os, hb3'.tape, hb3'.output, hb3'.size, hb3'.block⟩
        clear hb3'
        refine hK _ _ ?_
        clear hK K
        refine wpAny_take (i := 5) (v := ?_) rfl (by kernel_rfl) (by kernel_rfl) (by kernel_rfl) (fun _ _ _ h => h) (Or.inl ⟨by kernel_rfl, ?_⟩) ?_
        rotate_left
        · intro w; go_simp; try with_reducible rfl
        change wpAny _ _ _ _ _ _ (Act.put _ (some 18) _) _
        refine wpAny_take (i := 6) (v := ?_) rfl (by kernel_rfl) (by kernel_rfl) (by kernel_rfl) (fun _ _ _ h => h) (Or.inl ⟨by kernel_rfl, ?_⟩) ?_
        rotate_left
        · intro w; go_simp; try with_reducible rfl
        change wpAny _ _ _ _ _ _ (Act.put _ (some 19) _) _
        refine wpAny_take (i := 7) (v := undef) rfl (by kernel_rfl) (by kernel_rfl) (by kernel_rfl) (fun _ _ _ h => h) (Or.inr ⟨by kernel_rfl, rfl⟩) ?_
        change wpAny _ _ _ _ _ _ (Act.put _ (some 20) undef) _
        refine wpAny_take (i := 8) (v := undef) rfl (by kernel_rfl) (by kernel_rfl) (by kernel_rfl) (fun _ _ _ h => h) (Or.inr ⟨by kernel_rfl, rfl⟩) ?_
        change wpAny _ _ _ _ _ _ (Act.put _ (some 21) undef) _
        refine wpAny_take (i := 9) (v := undef) rfl (by kernel_rfl) (by kernel_rfl) (by kernel_rfl) (fun _ _ _ h => h) (Or.inr ⟨by kernel_rfl, rfl⟩) ?_
        change wpAny _ _ _ _ _ _ (Act.put _ (some 22) undef) _
        refine wpAny_take (i := 10) (v := undef) rfl (by kernel_rfl) (by kernel_rfl) (by kernel_rfl) (fun _ _ _ h => h) (Or.inr ⟨by kernel_rfl, rfl⟩) ?_
        change wpAny _ _ _ _ _ _ (Act.put _ (some 23) undef) _
        refine wpAny_take (i := 11) (v := undef) rfl (by kernel_rfl) (by kernel_rfl) (by kernel_rfl) (fun _ _ _ h => h) (Or.inr ⟨by kernel_rfl, rfl⟩) ?_
        change wpAny _ _ _ _ _ _ (Act.put _ (some 24) undef) _
        refine wpAny_take (i := 12) (v := undef) rfl (by kernel_rfl) (by kernel_rfl) (by kernel_rfl) (fun _ _ _ h => h) (Or.inr ⟨by kernel_rfl, rfl⟩) ?_
        change wpAny _ _ _ _ _ _ (Act.put _ (some 25) undef) _
        refine wpAny_take (i := 13) (v := undef) rfl (by kernel_rfl) (by kernel_rfl) (by kernel_rfl) (fun _ _ _ h => h) (Or.inr ⟨by kernel_rfl, rfl⟩) ?_
        change wpAny _ _ _ _ _ _ (Act.put _ (some 26) undef) _
        refine wpAny_take (i := 14) (v := undef) rfl (by kernel_rfl) (by kernel_rfl) (by kernel_rfl) (fun _ _ _ h => h) (Or.inr ⟨by kernel_rfl, rfl⟩) ?_
        change wpAny _ _ _ _ _ _ (Act.put _ (some 27) undef) _
        refine wpAny_take (i := 15) (v := ?_) rfl (by kernel_rfl) (by kernel_rfl) (by kernel_rfl) (fun _ _ _ h => h) (Or.inl ⟨by kernel_rfl, ?_⟩) ?_
        rotate_left
        · intro w; go_simp; try with_reducible rfl
        change wpAny _ _ _ _ _ _ (Act.put _ (some 28) _) _
        refine wpAny_done (by kernel_rfl) ?_ _
        go_simp
        have N3 := Lib.hid (NX.out.trans (hb3.mono hsz))
        go_wp2
        go_ret2
        exact .inl ⟨HR.out, rfl, N3.out⟩
      | true =>
        have HVA := Lib.hid hva
        clear hva
        have hil2 : (ss.take i).length ≤ 4398046510976 := Nat.le_trans (List.length_take_le _ _) (by omega)
        have HST : Hid (∀ w3 : World, Below wr.heap.size wr w3 → Calls Try.prog 54 #[.slice (some ⟨g, off, none⟩) i c, .agg #[.int .i64 s.pred, .slice au s.cells.length cu]] w3 (BoolIs w3 (standsB (ss.take i) s))) :=
          fun w3 h3 => has_any (ss.take i) _ s _ w3 ((HCUT.out.below (h3.mono hsz)).mono (by have := h3.size; omega)) (fun t ht => HSS.out t (List.mem_of_mem_take ht)) hil2 ((EX.out.below h3).ints) hok.1
        go_wp2_with fail
        go_region_held3 (fun w' => w'.cell? ⟨g, off + i * 2, none⟩ = some (.int .i64 s.pred) ∧ w'.cell? ⟨g, off + i * 2 + 1, none⟩ = some (.slice au s.cells.length cu))
          (first | exact ⟨k0, k1⟩ | exact ⟨m0, m1⟩ | exact ⟨q0, q1⟩)
          (first
            | (go_at_call 18; refine (refValid_any s _ _ (by exact EX.out.ints) hok.1.ints hok.1.len).mono ?_; rintro e w3 ⟨rfl, hb3'⟩; rw [HVA.out]; have hb3 : Below wr.heap.size wr w3 := ⟨hb3'.os, hb3'.tape, hb3'.output, hb3'.size, hb3'.block⟩; clear hb3'; have S3 := Lib.hid (EX.out.below hb3); have m0 := S3.out.c0; have m1 := S3.out.c1)
            | (go_at_call 54; refine (HST.out w3 hb3).mono ?_; rintro e w4 ⟨rfl, hb4'⟩; have hb4 : Below w3.heap.size w3 w4 := ⟨hb4'.os, hb4'.tape, hb4'.output, hb4'.size, hb4'.block⟩; clear hb4'; have S4 := Lib.hid (S3.out.below hb4); have q0 := S4.out.c0; have q1 := S4.out.c1))
        have N4 := Lib.hid (NX.out.trans ((hb3.trans (hb4.mono hb3.size)).mono hsz))
        clear k0 k1 m0 m1
        cases hst : standsB (ss.take i) s with
        | true =>
          have HR := Lib.hid (newB_twice HSI.out hst)
          clear hst
          go_wp2
          go_ret2
          exact .inl ⟨HR.out, rfl, N4.out⟩
        | false =>
          have HT2 := Lib.hid (hT.out.round HSI.out HVA.out hst)
          clear hst
          go_wp2
          go_roundw
          case rel => exact ⟨i + 1, by go_num, by omega, N4, HT2⟩
          case measure => simp only [intOf]; omega
    · have e : i = ss.length := by omega
      have HR : Hid (newB ss = true) := by have := hT.out; rw [e] at this; exact this.stop
      have R0 := Lib.hid (RMake.start wr ss)
      clear e
      go_wp2
      obtain ⟨wz, hwz⟩ : ∃ wz, wz = wr := ⟨_, rfl⟩
      rw [← hwz] at R0 NX hsz ⊢
      clear hwz
      generalize wz.alloc (.cells #[.slice none 0 0, .slice none 0 0] 98) = W0 at R0 ⊢
      go_loopw [6] (fun k wr => ∃ (i : Nat) (sv : Value), k = .int .i64 (i : Int) ∧ i ≤ ss.length ∧ Hid (RMake wz wz.heap.size ss i sv wr)) (fun k _ => ss.length - (intOf k).toNat)
      case atStart => exact ⟨0, _, rfl, Nat.zero_le _, R0⟩
      case round =>
        obtain ⟨i, sv, rfl, hil, HB⟩ := hrel
        have hwz := HB.out.below.size
        have hX := HB.out.lt
        by_cases h1 : i < ss.length
        · obtain ⟨g, off, rfl⟩ := HA.out (ne_of_lt_len h1)
          obtain ⟨s, hs⟩ : ∃ s, ss[i]? = some s := ⟨ss[i]'h1, List.getElem?_eq_getElem h1⟩
          obtain ⟨au, cu, ez⟩ := ShpsAt.el (j := i) (HV.out.below NX.out) hsz hs
          have EZ := Lib.hid ez
          have EX := Lib.hid (ez.below HB.out.below)
          have hok := HSS.out s (List.mem_of_getElem? hs)
          have hsl := hok.2
          have HSI := Lib.hid hs
          obtain ⟨vs, hvl, ho, hoi⟩ := HB.out.own
          have hti : (ss.take i).length = i := by rw [List.length_take]; omega
          rw [hti] at hvl ho
          obtain ⟨aV, cV, hsv⟩ : ∃ aV cV, sv = .slice aV i cV := by
            rcases Joins.ownsRow_forms ho with ⟨h1, h0⟩ | ⟨g, cap, h1⟩
            · exact ⟨_, _, by rw [h1, h0]⟩
            · exact ⟨_, _, h1⟩
          subst hsv
          have HO := Lib.hid ho
          have HI := Lib.hid hoi
          have i0 : (0 : Int) ≤ (i : Int) := Int.natCast_nonneg _
          have i1 : (i : Int) < (ss.length : Int) := by omega
          have x0 := HB.out.c0
          have k0 := EX.out.c0
          have k1 := EX.out.c1
          have EA := Lib.hid (EX.out.below (up_alloc wr (.cells #[] 3)))
          have BA := Lib.hid (HB.out.up (up_alloc wr (.cells #[] 3)))
          have xa := BA.out.c0
          have ka0 := EA.out.c0
          have ka1 := EA.out.c1
          clear hs ez ho hoi
          go_wp2_with fail
          go_region_law
            (first
              | (refine step_append_ints _ (by rfl) _ _ 25 (by rfl) wr.heap.size i3 Try.underlying25 qi q0 q1 q2 (.slice (some ⟨wr.heap.size, 0, none⟩) 0 0) 0 [] (by rfl) (by exact World.ownsRow_made wr #[] 0 (Nat.le_refl _) (by decide) rfl) (.slice au s.cells.length cu) s.cells (by rfl) (by exact EA.out.ints) EA.out.nil (by simp) (by omega) (by simp) ?_; intro u1 w1 hown1 hgrow1 hnil1; obtain ⟨gu, cu1, rfl⟩ := form_of hown1 hnil1; simp only [Nat.zero_add, List.nil_append] at hown1 ⊢; have hgrow1' : (wr.alloc (.cells #[] 3)).grownBy w1 (some wr.heap.size) := ⟨hgrow1.os, hgrow1.tape, hgrow1.output, hgrow1.size, hgrow1.block⟩; have hb1 : Below wr.heap.size wr w1 := (up_alloc wr (.cells #[] 3)).grown hgrow1' (by simp) (fun k hk => by simp at hk; omega); have hz1 := hb1.size; have B1 := Lib.hid (HB.out.up hb1); have x1 := B1.out.c0; have E1 := Lib.hid (EX.out.below hb1); have d0 := E1.out.c0; have d1 := E1.out.c1; have HU1 : Hid (OwnInts w1 wr.heap.size (.slice (some ⟨gu, 0, none⟩) s.cells.length cu1) s.cells) := hown1; have hone := one_shape s.pred HU1.out; have xm := (B1.out.up (up_alloc w1 (.cells #[.int .i64 s.pred, .slice (some ⟨gu, 0, none⟩) s.cells.length cu1] 27))).c0)
              | (refine step_append_own _ (by rfl) _ _ 22 (by rfl) (wz.heap.size + 1) 27 i27 (.agg #[.int .i64 0, .slice none 0 0]) 2 32 Try.underlying22 pi p0 p1 p2 rfl (by decide) (.slice aV i cV) i (flat (ss.take i) vs) (by rfl) (by exact World.ownsRow.alloc (row_keep HO.out (fun k hk => hb1.block k (World.ownsRow.lt HO.out k hk).2)) (.cells #[.int .i64 s.pred, .slice (some ⟨gu, 0, none⟩) s.cells.length cu1] 27)) ⟨w1.heap.size, 0, none⟩ 1 1 [.int .i64 s.pred, .slice (some ⟨gu, 0, none⟩) s.cells.length cu1] (by rfl) (by rfl) (World.news_of_block (cs := #[.int .i64 s.pred, .slice (some ⟨gu, 0, none⟩) s.cells.length cu1]) (t := 27) (fr := (0, 0)) (heap_alloc_new w1 _)) hone (by unfold maxLen; omega) (by omega) (by simp; omega) ?_; intro v' w2 hown2 hgrow2 hnl2; obtain ⟨g', c', rfl⟩ := Joins.ownsRow_form hown2 (by omega); have hgrow : (w1.alloc (.cells #[.int .i64 s.pred, .slice (some ⟨gu, 0, none⟩) s.cells.length cu1] 27)).grownBy w2 (Value.slice aV i cV).ownBlock := ⟨hgrow2.os, hgrow2.tape, hgrow2.output, hgrow2.size, hgrow2.block⟩; have HX6 := (B1.out.up (up_alloc w1 (.cells #[.int .i64 s.pred, .slice (some ⟨gu, 0, none⟩) s.cells.length cu1] 27))).atGrown hgrow; have x6 := HX6.1; have f6 := HX6.2; have HP := Lib.hid (HB.out.push HSI.out hvl HO.out HI.out (hb1.alloc hz1 (.cells #[.int .i64 s.pred, .slice (some ⟨gu, 0, none⟩) s.cells.length cu1] 27)) (World.ownsRow.alloc HU1.out _) hgrow hown2)))
          all_goals
            clear hc hnil1
            go_wp2
            go_roundw
            case rel => exact ⟨i + 1, _, by go_num, by omega, HP⟩
            case measure => simp only [intOf]; omega
        · have e : i = ss.length := by omega
          have hbf := HB.out
          rw [e] at hbf
          have HO := Lib.hid hbf.own
          rw [List.take_length] at HO
          have HX := Lib.hid hbf.box
          have HBL := Lib.hid (NX.out.trans (hbf.below.mono hsz))
          clear hbf e
          go_wp2
          go_ret2
          exact .inr ⟨HR.out, _, _, rfl, hsz, HX.out, HO.out, HBL.out⟩

end Go.Proofs.Ytlandkindbmbfaa
/-
  The walk of edictlaw10.step: both nets answer alike, and hold the same rows behind it. Conditions: the numbers are ints, the lists within the form's own reach.
-/
namespace Go.Proofs.Ytlandkindbmbfaa
open Go.RowKit Plain
attribute [local go_sem ↓] Go.wp_at_zero Go.wp_at_succ

def Short (rs : List Shp) : Prop := ∀ r, r ∈ rs → r.cells.length ≤ 17592186044400
theorem Short.snoc {rs : List Shp} {r : Shp} (h : Short rs) (hr : r.cells.length ≤ 17592186044400) : Short (rs ++ [r]) := fun x hx => by
  rcases List.mem_append.1 hx with h1 | h1
  · exact h x h1
  · rw [List.mem_singleton] at h1; subst h1; exact hr
theorem Short.take {rs : List Shp} (h : Short rs) (m : Nat) : Short (rs.take m) := fun x hx => h x (List.mem_of_mem_take hx)

structure OpBox (w : World) (b : Nat) (kind pred : Int) (u : Value) (nn : Int) : Prop where
  c0 : w.cell? ⟨b, 0, none⟩ = some (.int .i64 kind)
  c1 : w.cell? ⟨b, 1, none⟩ = some (.int .i64 pred)
  c2 : w.cell? ⟨b, 2, none⟩ = some u
  c3 : w.cell? ⟨b, 3, none⟩ = some (.int .i64 nn)
theorem OpBox.made (w : World) (kind pred : Int) (u : Value) (nn : Int) : OpBox (w.alloc (.cells #[.int .i64 kind, .int .i64 pred, u, .int .i64 nn] 66)) w.heap.size kind pred u nn :=
  ⟨by simp, by simp, by simp, by simp⟩
theorem OpBox.keep {w w' : World} {b : Nat} {kind pred : Int} {u : Value} {nn : Int} (h : OpBox w b kind pred u nn) (hb : w'.heap[b]? = w.heap[b]?) : OpBox w' b kind pred u nn :=
  ⟨(World.cell?_of_block hb).trans h.c0, (World.cell?_of_block hb).trans h.c1, (World.cell?_of_block hb).trans h.c2, (World.cell?_of_block hb).trans h.c3⟩

def StepIs (wB : World) (X : Nat) (mv : Value) (ms : List Nat) (ss : List Shp) (X2 : Nat) (sv : Value) (rs : List Shp) (e : Ending) (w' : World) : Prop :=
  e = .returned (.bool true) ∧ ∃ rs' G' rv', Both wB X mv ms ss X2 sv rs' rs' w' G' rv' ∧ rs'.length ≤ rs.length + 1 ∧ Short rs'

section
variable {wB w : World} {G : Nat → Nat} {X X2 : Nat} {mv sv rv : Value} {ms : List Nat} {ss rs : List Shp}

theorem Both.len (h : Both wB X mv ms ss X2 sv rs rs w G rv) : Calls Try.prog 37 #[.pointer (some ⟨X, 0, none⟩)] w fun e w' => e = .returned (.int .i64 (rs.length : Int)) ∧ w = w' := len_any h.net

set_option maxRecDepth 100000 in
set_option maxHeartbeats 6400000 in
theorem step_add (h : Both wB X mv ms ss X2 sv rs rs w G rv) (hsh : OwnShps wB (X2 + 1) sv ss) (hok : Okays ss) (hva : ∀ s, s ∈ ss → validB s = true) (hss : ss.length ≤ 4398046510976) (hn : rs.length < 4398046510976) (hst : Short rs) (pred : Int) (row : List Int) (u : Value) (nn : Int)
    (hu : IntsAt w w.heap.size u row) (hny : Nilly u) (hub : row ≠ [] → ∀ k, u.ownBlock = some k → k < wB.heap.size ∧ k ≠ X2) (hr : row.length ≤ 17592186044400) :
    Calls Try.prog 36 #[.pointer (some ⟨X, 0, none⟩), .pointer (some ⟨X2, 0, none⟩), .agg #[.int .i64 1, .int .i64 pred, u, .int .i64 nn]] w (StepIs wB X mv ms ss X2 sv rs) := by
  obtain ⟨au, cu, rfl, _⟩ := id hu
  obtain ⟨w0, hw0⟩ : ∃ w0, w0 = w.alloc (.cells #[.int .i64 1, .int .i64 pred, .slice au row.length cu, .int .i64 nn] 66) := ⟨_, rfl⟩
  have hb0 : Below w.heap.size w w0 := by rw [hw0]; exact up_alloc _ _
  have HB0 := Lib.hid (h.up hb0)
  have HX := Lib.hid (show OpBox w0 w.heap.size 1 pred (.slice au row.length cu) nn by rw [hw0]; exact OpBox.made _ _ _ _ _)
  have hbl : w.heap.size < w0.heap.size := by rw [hw0]; simp
  have HU0 := Lib.hid ((hu.below hb0).mono hb0.size)
  have HST := Lib.hid hst
  have hBw := h.exc.size
  by_cases hbad : pred < 0 ∨ negB row = true
  · have HR := Lib.hid (radd_no X2 pred row _ w0 HU0.out (by omega) hbad)
    have HAN := Lib.hid (fun (w' : World) (hb : Below w0.heap.size w0 w') => add_no (X := X) pred row (.slice au row.length cu) w' ((HU0.out.below hb).mono hb.size) (by omega) hbad)
    have HIN := Lib.hid (fun (w' : World) (v v' : Value) (h1 : OwnInts w' 0 v []) (h2 : OwnInts w' 0 v' []) => ints_any [] [] v v' w' h1.at h2.at (by simp) (by simp))
    have b0 := HX.out.c0
    have b1 := HX.out.c1
    have b2 := HX.out.c2
    clear h hsh hok hva hub hny hu hbad hst hb0
    go_enter Try.func36, Try.ntmps36
    go_wp2_with fail
    rw [← hw0]
    clear hw0
    refine HR.out.mono ?_
    rintro e w1 ⟨v1, rfl, hv1, hb1⟩
    obtain ⟨a1, n1, c1, rfl⟩ := hv1.form
    have X1 := Lib.hid (HX.out.keep (hb1.block _ hbl))
    have V1 := Lib.hid hv1
    have B1 := Lib.hid hb1
    have b0 := X1.out.c0
    have b1 := X1.out.c1
    have b2 := X1.out.c2
    clear hv1 hb1
    go_wp2_with fail
    refine (HAN.out w1 B1.out).mono ?_
    rintro e w2 ⟨v2, rfl, hv2, hb2⟩
    obtain ⟨a2, n2, c2, rfl⟩ := hv2.form
    have V2 := Lib.hid hv2
    have V12 := Lib.hid (V1.out.up hb2)
    have B2 := Lib.hid (B1.out.trans (hb2.mono B1.out.size))
    clear hv2 hb2
    go_wp2_with fail
    refine (HIN.out w2 _ _ (V2.out.mono (Nat.zero_le _)) (V12.out.mono (Nat.zero_le _))).mono ?_
    rintro e w3 ⟨rfl, hb3⟩
    have HF := Lib.hid (HB0.out.up (B2.out.trans (hb3.mono B2.out.size)))
    clear hb3
    go_wp2
    go_ret
    exact ⟨ret_bool (by simp), rs, G, rv, HF.out, by omega, HST.out⟩
  · have hp : 0 ≤ pred := by
      rcases Int.lt_or_le pred 0 with h1 | h1
      · exact absurd (Or.inl h1) hbad
      · exact h1
    have hng : negB row = false := by
      cases hq : negB row with
      | false => rfl
      | true => exact absurd (Or.inr hq) hbad
    have hrlt : ∀ k, rv.ownBlock = some k → wB.heap.size ≤ k ∧ k < w.heap.size := by
      obtain ⟨vs, _, ho, _⟩ := h.rows
      exact fun k hk => World.ownsRow.lt ho k hk
    have hub2 : row ≠ [] → ∀ k, (Value.slice au row.length cu).ownBlock = some k → k ≠ X2 ∧ rv.ownBlock ≠ some k := fun hne k hk => ⟨(hub hne k hk).2, fun e => by have := hrlt k e; have := (hub hne k hk).1; omega⟩
    have HR := Lib.hid (radd_yes HB0.out hsh hok hss hn pred row _ HU0.out hny hub2 hr hp hng)
    have HUB := Lib.hid hub
    have HUB2 := Lib.hid hub2
    have HOK := Lib.hid hok
    have HVA := Lib.hid hva
    have hX2b : w.heap.size ≠ X2 := by have := h.lt2; omega
    have hrvb : rv.ownBlock ≠ some w.heap.size := fun e => by have := hrlt _ e; omega
    have HXB := Lib.hid (And.intro hX2b hrvb)
    have HNG := Lib.hid hng
    have htl := took_len ss ⟨pred, row⟩
    have b0 := HX.out.c0
    have b1 := HX.out.c1
    have b2 := HX.out.c2
    clear h hsh hok hva hub hub2 hny hu hbad hst hb0 hng hrlt hX2b hrvb
    go_enter Try.func36, Try.ntmps36
    go_wp2_with fail
    rw [← hw0]
    clear hw0
    refine HR.out.mono ?_
    rintro e w1 ⟨v1, rv1, rfl, hB1, hc1, hv1⟩
    obtain ⟨a1, n1, c1, rfl⟩ := hv1.form
    have X1 := Lib.hid (HX.out.keep (hc1.block _ hbl HXB.out.1 HXB.out.2))
    have HB1 := Lib.hid hB1
    have HC1 := Lib.hid hc1
    have V1 := Lib.hid hv1
    have U1 := Lib.hid (HU0.out.chg hc1 HUB2.out)
    have b0 := X1.out.c0
    have b1 := X1.out.c1
    have b2 := X1.out.c2
    have HAD := Lib.hid (add_yes hB1.net hss HOK.out HVA.out (by omega) (fun i _ => lsOf_len ss rs i) pred row (.slice au row.length cu) U1.out (fun hne k hk => by rw [hB1.zero k (HUB.out hne k hk).1]; decide) (by omega) hp HNG.out)
    clear hB1 hc1 hv1
    go_wp2_with fail
    refine HAD.out.mono ?_
    rintro e w2 ⟨v2, G2, rfl, hA⟩
    have hown := hA.own
    rw [List.take_length] at hown
    obtain ⟨a2, n2, c2, rfl⟩ := OwnInts.form hown
    have HB2 : Hid (Both wB X mv ms ss X2 sv (rs ++ [⟨pred, row⟩]) (rs ++ [⟨pred, row⟩]) w2 G2 rv1) := by
      refine HB1.out.turn ?_ hA.tags hA.turned
      rw [List.length_append, List.length_singleton]
      exact hA.net.congr (fun j hj => by rw [if_pos hj]; exact lsOf_add ss rs ⟨pred, row⟩ j)
    have V2 : Hid (OwnInts w2 0 (.slice a2 n2 c2) (took ss ⟨pred, row⟩)) := hown.mono (Nat.zero_le _)
    have V12 : Hid (OwnInts w2 0 (.slice a1 n1 c1) (took ss ⟨pred, row⟩)) := (V1.out.turned hA.turned (fun k hk => by rw [HB0.out.net.zero k hk]; decide)).mono (Nat.zero_le _)
    have HIN : Hid (Calls Try.prog 21 #[.slice a2 n2 c2, .slice a1 n1 c1] w2 (BoolIs w2 true)) := by
      have := ints_any _ _ _ _ w2 V2.out.at V12.out.at (show (took ss ⟨pred, row⟩).length ≤ 35184372088832 by omega) (show (took ss ⟨pred, row⟩).length ≤ 35184372088832 by omega)
      rw [decide_eq_true rfl] at this
      exact this
    clear hA hown
    go_wp2_with fail
    refine HIN.out.mono ?_
    rintro e w3 ⟨rfl, hb3⟩
    have HF := Lib.hid (HB2.out.up hb3)
    clear hb3
    go_wp2
    go_ret
    exact ⟨ret_bool (by simp), _, _, _, HF.out, by simp, HST.out.snoc hr⟩
end

end Go.Proofs.Ytlandkindbmbfaa
