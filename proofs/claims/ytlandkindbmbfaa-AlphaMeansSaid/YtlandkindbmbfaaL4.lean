/-
  The walk of the law AlphaMeans: it returns true and leaves what was in memory. Conditions: the arguments are within the form's own reach.
-/
import Derived.Test.YtlandkindbmbfaaW14
namespace Go.Proofs.Ytlandkindbmbfaa
open Go.RowKit Plain
attribute [local go_sem ↓] Go.wp_at_zero Go.wp_at_succ

theorem wrap_next {P : Int} (h0 : 0 ≤ P) (h1 : P ≤ 9223372036854775807) : IntKind.i64.wrap (P + 1) = P + 1 ∨ IntKind.i64.wrap (P + 1) = -9223372036854775808 := by
  by_cases h : P = 9223372036854775807
  · right; subst h; rfl
  · left
    rw [IntKind.wrap_i64]; omega

set_option maxRecDepth 100000 in
set_option maxHeartbeats 32000000 in
theorem means_row (v0 : Value) (x0 : Int × List Slt) {w : World} (h0 : PatArg w v0 x0) (v2 : Value) (r : Shp) (h2 : RowArg w v2 r) (v1 : Value) (x1 : Int × Int × Int) (h1 : TurnArg v1 x1) :
    Calls Try.prog 5 #[v0, v2, v1] w fun e w' => e = .returned (.bool true) ∧ Below w.heap.size w w' := by
  obtain ⟨p, l⟩ := x0
  obtain ⟨x, y, z⟩ := x1
  obtain ⟨u0, rfl, hs0, hi0, hn0, hp0⟩ := h0
  obtain ⟨rfl, hx, hy, hz⟩ := h1
  obtain ⟨u2, rfl, hs2, hn2, hok2, hl2⟩ := h2
  simp only at hs0 hi0 hn0 hp0 hx hy hz ⊢
  obtain ⟨au0, cu0, rfl, _⟩ := hs0.form
  obtain ⟨au2, cu2, rfl, _⟩ := id hs2
  obtain ⟨W0, hW0⟩ : ∃ W0, W0 = ((w.alloc (.cells #[.int .i64 p, .slice au0 l.length cu0] 39)).alloc (.cells #[.int .i64 r.pred, .slice au2 r.cells.length cu2] 33)).alloc (.cells #[.int .i64 x, .int .i64 y, .int .i64 z] 41) := ⟨_, rfl⟩
  have PB := Lib.hid (show PatBox W0 w.heap.size p l (.slice au0 l.length cu0) by rw [hW0]; exact ((PatBox.made hs0).below (up_alloc _ _)).below (up_alloc _ _))
  have RB := Lib.hid (show ShBox W0 (w.heap.size + 1) r (.slice au2 r.cells.length cu2) by
    have h := (ShBox.made33 (w := w.alloc (.cells #[.int .i64 p, .slice au0 l.length cu0] 39)) (s := r) (v := .slice au2 r.cells.length cu2) ((hs2.below (up_alloc w _)).mono (by simp))).below (up_alloc _ (.cells #[.int .i64 x, .int .i64 y, .int .i64 z] 41))
    rw [hW0]; simpa using h)
  have TB := Lib.hid (show TurnBox W0 (w.heap.size + 2) x y z by
    have h := TurnBox.made (w := (w.alloc (.cells #[.int .i64 p, .slice au0 l.length cu0] 39)).alloc (.cells #[.int .i64 r.pred, .slice au2 r.cells.length cu2] 33)) (x := x) (y := y) (z := z)
    rw [hW0]; simpa [Nat.add_assoc] using h)
  have NW := Lib.hid (show Below w.heap.size w W0 by rw [hW0]; exact ((up_alloc w _).trans ((up_alloc _ _).mono (by simp))).trans ((up_alloc _ _).mono (by simp; omega)))
  obtain ⟨P, hP⟩ : ∃ P, P = prP p := ⟨_, rfl⟩
  obtain ⟨ql, hql⟩ : ∃ ql, ql = l.map pf := ⟨_, rfl⟩
  have hPb : 0 ≤ P ∧ P ≤ 9223372036854775807 := by rw [hP]; exact prP_ok hp0
  have qok : ql.all okSlt = true := by rw [hql]; exact pf_ok l
  have qi : I64l ql := by rw [hql]; exact pf_i64 hi0
  have qn : ql.length ≤ 8796093021952 := by rw [hql, List.length_map]; exact hn0
  obtain ⟨sa, hsa⟩ : ∃ sa, sa = shapeB P ql := ⟨_, rfl⟩
  obtain ⟨fr, hfr⟩ : ∃ fr, fr = ql.map (fl x) := ⟨_, rfl⟩
  have hfl : fr.length ≤ 8796093021952 := by rw [hfr, List.length_map]; exact qn
  have oka := Lib.hid (show Okay sa ∧ sa.cells.length ≤ 17592186044400 by rw [hsa]; exact shape_okay hPb qok qi qn)
  have HVA := Lib.hid (show validB sa = true by rw [hsa]; exact shape_valid hPb.1 qok)
  have HFI := Lib.hid (fun (q : Int) (args : List Int) => (show fitsB sa q args = instB P ql q args by rw [hsa]; exact fits_inst hPb.1 qok))
  have hfa : fitsB sa P fr = true := by rw [HFI.out, hfr]; exact inst_of_fun (fun c => rfl)
  have HFA := Lib.hid hfa
  have hpa : sa.pred = P := by rw [hsa, shapeB_ok hPb.1 qok]
  have HPA := Lib.hid hpa
  have HLA := Lib.hid (show fr.length = sa.cells.length by rw [hsa, shapeB_ok hPb.1 qok, hfr]; simp)
  have HP1 := Lib.hid (show ∀ q : Int, q ≠ P → fitsB sa q fr = false from fun q hq => fitsB_pred (by rw [hpa]; exact hq))
  have HL1 := Lib.hid (show fitsB sa P (fr ++ [0]) = false from fitsB_len (by rw [List.length_append, ← HLA.out]; simp))
  have HPR := Lib.hid (fun (w' : World) (v : Value) (hv : SlotsAt w' w'.heap.size v l) => (show Calls Try.prog 22 #[.agg #[.int .i64 p, v]] w' (PatIs P ql w') by rw [hP, hql]; exact proper_any p l v w' hv hn0))
  have HSA := Lib.hid (fun (w' : World) (v : Value) (hv : SlotsAt w' w'.heap.size v ql) => (show Calls Try.prog 23 #[.agg #[.int .i64 P, v]] w' (ShapeIs sa w') by rw [hsa]; exact shape_any P ql v w' hv qi qn))
  have HFL := Lib.hid (fun (w' : World) (v : Value) (hv : SlotsAt w' w'.heap.size v ql) => (show Calls Try.prog 25 #[.agg #[.int .i64 P, v], .int .i64 x] w' (fun e w'' => ∃ v, e = .returned v ∧ OwnInts w'' w'.heap.size v fr ∧ Below w'.heap.size w' w'') by rw [hfr]; exact filled_any P ql x v w' hv qn))
  have HIN := Lib.hid (fun (w' : World) (v u : Value) (q : Int) (args : List Int) (hv : SlotsAt w' w'.heap.size v ql) (hu : IntsAt w' w'.heap.size u args) => instance_any P ql q args v u w' hv qn hu)
  have HQ0 := Lib.hid hPb
  have HR0 := Lib.hid hl2
  clear hs0 hi0 hn0 hp0 hx hz hs2 hn2 hok2 hl2 hP hql qok qi qn hsa hfr hfa hpa
  go_enter Try.func5, Try.ntmps5
  go_wp2_with fail
  rw [← hW0]
  clear hW0
  refine (HPR.out W0 _ PB.out.2.2.1).mono ?_
  rintro e w1 ⟨vq, rfl, hoq, hb⟩
  obtain ⟨aq, nq, cq, rfl⟩ := hoq.form
  replace PB := Lib.hid (PB.out.below hb)
  replace TB := Lib.hid (TB.out.below hb)
  replace RB := Lib.hid (RB.out.below hb)
  replace NW := Lib.hid (NW.out.trans (hb.mono NW.out.size))
  have OQ := Lib.hid hoq.at
  clear hb hoq
  go_wp2_with fail
  generalize hx : w1.alloc (.cells #[.int .i64 P, .slice aq nq cq] 39) = y1
  have hb : Below w1.heap.size w1 y1 := by rw [← hx]; exact up_alloc _ _
  have QB := Lib.hid (show PatBox y1 w1.heap.size P ql (.slice aq nq cq) by rw [← hx]; exact PatBox.made OQ.out)
  replace PB := Lib.hid (PB.out.below hb)
  replace TB := Lib.hid (TB.out.below hb)
  replace RB := Lib.hid (RB.out.below hb)
  replace NW := Lib.hid (NW.out.trans (hb.mono NW.out.size))
  clear hx hb
  refine (HSA.out y1 _ QB.out.2.2.1).mono ?_
  rintro e w2 ⟨va, rfl, hoa, hb⟩
  obtain ⟨aa, na, ca, rfl⟩ := hoa.form
  replace PB := Lib.hid (PB.out.below hb)
  replace TB := Lib.hid (TB.out.below hb)
  replace RB := Lib.hid (RB.out.below hb)
  replace QB := Lib.hid (QB.out.below hb)
  replace NW := Lib.hid (NW.out.trans (hb.mono NW.out.size))
  have OA := Lib.hid hoa.at
  have NA := Lib.hid hoa.nilly
  clear hb hoa
  go_wp2_with fail
  generalize hx : w2.alloc (.cells #[.int .i64 sa.pred, .slice aa na ca] 27) = y2
  have hb : Below w2.heap.size w2 y2 := by rw [← hx]; exact up_alloc _ _
  have AB := Lib.hid (show ShBox y2 w2.heap.size sa (.slice aa na ca) by rw [← hx]; exact ShBox.made OA.out)
  replace PB := Lib.hid (PB.out.below hb)
  replace TB := Lib.hid (TB.out.below hb)
  replace RB := Lib.hid (RB.out.below hb)
  replace QB := Lib.hid (QB.out.below hb)
  replace NW := Lib.hid (NW.out.trans (hb.mono NW.out.size))
  clear hx hb
  have a0k0 := AB.out.1
  have a1k0 := AB.out.2.1
  have q0k0 := QB.out.1
  have q1k0 := QB.out.2.1
  have r0k0 := RB.out.1
  have r1k0 := RB.out.2.1
  go_wp2_with fail
  go_region_held3 (fun w' => w'.cell? ⟨w2.heap.size, 0, none⟩ = some (.int .i64 sa.pred) ∧ w'.cell? ⟨w2.heap.size, 1, none⟩ = some (.slice aa na ca) ∧ w'.cell? ⟨w1.heap.size, 0, none⟩ = some (.int .i64 P) ∧ w'.cell? ⟨w1.heap.size, 1, none⟩ = some (.slice aq nq cq) ∧ w'.cell? ⟨w.heap.size + 1, 0, none⟩ = some (.int .i64 r.pred) ∧ w'.cell? ⟨w.heap.size + 1, 1, none⟩ = some (.slice au2 r.cells.length cu2))
    (first | exact ⟨a0k0, a1k0, q0k0, q1k0, r0k0, r1k0⟩ | exact ⟨a0k1, a1k1, q0k1, q1k1, r0k1, r1k1⟩ | exact ⟨a0k2, a1k2, q0k2, q1k2, r0k2, r1k2⟩ | exact ⟨a0k3, a1k3, q0k3, q1k3, r0k3, r1k3⟩)
    (first
      | ((fail_if_success (have hchk := hb0)); go_at_call 17; refine (valid_any sa _ _ (by exact AB.out.2.2.1) oka.out.1.ints oka.out.1.len).mono ?_; rintro e v1 ⟨rfl, hbb⟩; have hb0 : Below y2.heap.size y2 v1 := ⟨hbb.os, hbb.tape, hbb.output, hbb.size, hbb.block⟩; clear hbb; rw [HVA.out]; have AB1 := Lib.hid (AB.out.below hb0); have QB1 := Lib.hid (QB.out.below hb0); have RB1 := Lib.hid (RB.out.below hb0); have a0k1 := AB1.out.1; have a1k1 := AB1.out.2.1; have q0k1 := QB1.out.1; have q1k1 := QB1.out.2.1; have r0k1 := RB1.out.1; have r1k1 := RB1.out.2.1)
      | ((fail_if_success (have hchk := hb1)); go_at_call 19; refine (fits_any sa _ r.pred r.cells _ _ (by exact AB1.out.2.2.1) NA.out oka.out.1 oka.out.2 (by exact RB1.out.2.2.1) (by have := HR0.out; omega)).mono ?_; rintro e v2 ⟨rfl, hbb⟩; have hb1 : Below v1.heap.size v1 v2 := ⟨hbb.os, hbb.tape, hbb.output, hbb.size, hbb.block⟩; clear hbb; rw [HFI.out]; have AB2 := Lib.hid (AB1.out.below hb1); have QB2 := Lib.hid (QB1.out.below hb1); have RB2 := Lib.hid (RB1.out.below hb1); have a0k2 := AB2.out.1; have a1k2 := AB2.out.2.1; have q0k2 := QB2.out.1; have q1k2 := QB2.out.2.1; have r0k2 := RB2.out.1; have r1k2 := RB2.out.2.1)
      | ((fail_if_success (have hchk := hb2)); go_at_call 24; refine (HIN.out _ _ _ r.pred r.cells (by exact QB2.out.2.2.1) (by exact RB2.out.2.2.1)).mono ?_; rintro e v3 ⟨rfl, hbb⟩; have hb2 : Below v2.heap.size v2 v3 := ⟨hbb.os, hbb.tape, hbb.output, hbb.size, hbb.block⟩; clear hbb; have AB3 := Lib.hid (AB2.out.below hb2); have QB3 := Lib.hid (QB2.out.below hb2); have RB3 := Lib.hid (RB2.out.below hb2); have a0k3 := AB3.out.1; have a1k3 := AB3.out.2.1; have q0k3 := QB3.out.1; have q1k3 := QB3.out.2.1; have r0k3 := RB3.out.1; have r1k3 := RB3.out.2.1; have bx : (instB P ql r.pred r.cells != instB P ql r.pred r.cells) = false := by simp))
  have g1 := hb0.trans (hb1.mono hb0.size)
  have hb := g1.trans (hb2.mono g1.size)
  replace PB := Lib.hid (PB.out.below hb)
  replace TB := Lib.hid (TB.out.below hb)
  replace RB := Lib.hid (RB.out.below hb)
  replace QB := Lib.hid (QB.out.below hb)
  replace AB := Lib.hid (AB.out.below hb)
  replace NW := Lib.hid (NW.out.trans (hb.mono NW.out.size))
  clear a0k0 a1k0 q0k0 q1k0 r0k0 r1k0
  clear a0k1 a1k1 q0k1 q1k1 r0k1 r1k1
  clear a0k2 a1k2 q0k2 q1k2 r0k2 r1k2
  clear a0k3 a1k3 q0k3 q1k3 r0k3 r1k3
  clear hb g1 hb0 hb1 hb2 bx AB1 QB1 RB1 AB2 QB2 RB2 AB3 QB3 RB3
  have q0 := QB.out.1
  have q1 := QB.out.2.1
  have t0 := TB.out.1
  go_wp2_with fail
  clear q0 q1 t0
  refine (HFL.out v3 _ QB.out.2.2.1).mono ?_
  rintro e z1 ⟨vf, rfl, hof, hb⟩
  have NB := Lib.hid hb
  have OL := Lib.hid hof
  clear hb hof
  obtain ⟨al, cl, rfl, _⟩ := id OL.out.at
  have a0k0 := (AB.out.below NB.out).1
  have a1k0 := (AB.out.below NB.out).2.1
  have q0k0 := (QB.out.below NB.out).1
  have hP1 : ∀ q : Int, q ≠ P → fitsB sa q fr = false := HP1.out
  have hPw : IntKind.i64.wrap (P + 1) ≠ P := by
    have := HQ0.out
    have hw : IntKind.i64.wrap (P + 1) = P + 1 ∨ IntKind.i64.wrap (P + 1) = -9223372036854775808 := wrap_next this.1 this.2
    omega
  have cj : True := trivial
  go_wp2_with fail
  go_region_held3 (fun w' => w'.cell? ⟨w2.heap.size, 0, none⟩ = some (.int .i64 sa.pred) ∧ w'.cell? ⟨w2.heap.size, 1, none⟩ = some (.slice aa na ca) ∧ w'.cell? ⟨w1.heap.size, 0, none⟩ = some (.int .i64 P))
    (first | exact ⟨a0k0, a1k0, q0k0⟩ | exact ⟨a0k1, a1k1, q0k1⟩ | exact ⟨a0k2, a1k2, q0k2⟩ | exact ⟨a0k3, a1k3, q0k3⟩ | exact ⟨a0k4, a1k4, q0k4⟩ | exact ⟨a0j, a1j, q0j⟩ | go_keep)
    (first
      | ((fail_if_success (have hchk := NB1)); go_at_call 19; refine (fits_any sa _ _ fr _ _ (by exact (AB.out.below NB.out).2.2.1) NA.out oka.out.1 oka.out.2 (by exact OL.out.at) (by first | omega | (simp; omega))).mono ?_; rintro e z2 ⟨rfl, hbb⟩; have hb0 : Below z1.heap.size z1 z2 := ⟨hbb.os, hbb.tape, hbb.output, hbb.size, hbb.block⟩; clear hbb; rw [show fitsB sa P fr = true from HFA.out]; have NB1 := Lib.hid (NB.out.trans (hb0.mono NB.out.size)); have OL1 := Lib.hid (OL.out.up hb0); have a0k1 := (AB.out.below NB1.out).1; have a1k1 := (AB.out.below NB1.out).2.1; have q0k1 := (QB.out.below NB1.out).1)
      | ((fail_if_success (have hchk := NB2)); go_at_call 19; refine (fits_any sa _ _ fr _ _ (by exact (AB.out.below NB1.out).2.2.1) NA.out oka.out.1 oka.out.2 (by exact OL1.out.at) (by first | omega | (simp; omega))).mono ?_; rintro e z3 ⟨rfl, hbb⟩; have hb1 : Below z2.heap.size z2 z3 := ⟨hbb.os, hbb.tape, hbb.output, hbb.size, hbb.block⟩; clear hbb; rw [hP1 _ hPw]; have NB2 := Lib.hid (NB1.out.trans (hb1.mono NB1.out.size)); have OL2 := Lib.hid (OL1.out.up hb1); have a0k2 := (AB.out.below NB2.out).1; have a1k2 := (AB.out.below NB2.out).2.1; have q0k2 := (QB.out.below NB2.out).1)
      | ((fail_if_success (have hchk := NB3)); refine step_append_keep _ (by first | rfl | (simp [Region.wanted, yielded])) _ _ (by rfl) v3.heap.size (.slice al fr.length cl) fr (by rfl) (by exact World.ownsRow.alloc OL2.out _) ⟨z3.heap.size, 0, none⟩ 1 0 (by rfl) (by exact World.news_of_block (cs := #[.int .i64 0]) (t := 3) (fr := (0, 0)) (heap_alloc_new z3 _)) (by omega) (by have := NB2.out.size; simp; omega) ?_; intro va w4 hia hol hbb; have hb2 : Below v3.heap.size (z3.alloc (.cells #[.int .i64 0] 3)) w4 := ⟨hbb.os, hbb.tape, hbb.output, hbb.size, hbb.block⟩; clear hbb; have NB3 := Lib.hid ((NB2.out.alloc NB2.out.size (.cells #[.int .i64 0] 3)).trans hb2); have OL3 := Lib.hid hol; have IA := Lib.hid hia; clear hia hol; have a0k3 := (AB.out.below NB3.out).1; have a1k3 := (AB.out.below NB3.out).2.1; have q0k3 := (QB.out.below NB3.out).1)
      | ((fail_if_success (have hchk := NB4)); go_at_call 19; refine (fits_any sa _ _ (fr ++ [0]) _ _ (by exact (AB.out.below NB3.out).2.2.1) NA.out oka.out.1 oka.out.2 (by exact IA.out) (by first | omega | (simp; omega))).mono ?_; rintro e z5 ⟨rfl, hbb⟩; have hb3 : Below w4.heap.size w4 z5 := ⟨hbb.os, hbb.tape, hbb.output, hbb.size, hbb.block⟩; clear hbb; rw [HL1.out]; have NB4 := Lib.hid (NB3.out.trans (hb3.mono NB3.out.size)); have OL4 := Lib.hid (OL3.out.up hb3); have a0k4 := (AB.out.below NB4.out).1; have a1k4 := (AB.out.below NB4.out).2.1; have q0k4 := (QB.out.below NB4.out).1))
  clear a0k0 a1k0 q0k0
  clear a0k1 a1k1 q0k1
  clear a0k2 a1k2 q0k2
  clear a0k3 a1k3 q0k3
  clear a0k4 a1k4 q0k4
  clear hP1 hPw cj hb0 hb1 hb2 hb3 NB1 NB2 NB3 OL1 OL2 OL3 IA
  obtain ⟨zw, hzw⟩ : ∃ zw, zw = z5 := ⟨_, rfl⟩
  rw [← hzw] at NB4 OL4 ⊢
  clear hzw
  by_cases hy0 : y < 0
  · go_wp2
    go_ret
    exact ⟨rfl, NW.out.trans (NB4.out.mono NW.out.size)⟩
  · by_cases hyl : (fr.length : Int) ≤ y
    · go_wp2
      go_ret
      exact ⟨rfl, NW.out.trans (NB4.out.mono NW.out.size)⟩
    · obtain ⟨j, rfl⟩ : ∃ j : Nat, y = (j : Int) := ⟨y.toNat, by omega⟩
      have hj : j < fr.length := by omega
      obtain ⟨g, c', hg⟩ := Joins.ownsRow_form OL4.out (by omega)
      simp only [Value.slice.injEq] at hg
      obtain ⟨rfl, _, rfl⟩ := hg
      have hc := OwnInts.cell OL4.out hj
      rw [Nat.zero_add] at hc
      have hf := World.ownsRow.frozenAt OL4.out j
      obtain ⟨q, hq⟩ : ∃ q, q = at' fr j := ⟨_, rfl⟩
      rw [← hq] at hc
      clear hq
      have hgl := (OL4.out.lt g rfl).1
      go_wp2_with fail
      generalize hx : zw.setCell ⟨g, j, none⟩ (.int .i64 (wrap64 (q + 1))) = z6
      have OL := Lib.hid (show OwnInts z6 v3.heap.size (.slice (some ⟨g, 0, none⟩) fr.length cl) (fr.set j (wrap64 (q + 1))) by
        rw [← hx]; have := (World.ownsRow.stored OL4.out j (.int .i64 (wrap64 (q + 1)))).1
        unfold OwnInts; rw [← lits_set, List.length_set]; exact this)
      have NB := Lib.hid (show Below v3.heap.size v3 z6 by rw [← hx]; exact NB4.out.setCell (p := ⟨g, j, none⟩) hgl _)
      have hfl2 : (fr.set j (wrap64 (q + 1))).length ≤ 8796093021952 := by rw [List.length_set]; exact hfl
      obtain ⟨f2, hf2⟩ : ∃ f2, f2 = fr.set j (wrap64 (q + 1)) := ⟨_, rfl⟩
      rw [← hf2] at OL hfl2
      clear hx hf2 hc hf NB4 OL4
      have a0k0 := (AB.out.below NB.out).1
      have a1k0 := (AB.out.below NB.out).2.1
      have q0k0 := (QB.out.below NB.out).1
      have q1k0 := (QB.out.below NB.out).2.1
      go_wp2_with fail
      go_region_held3 (fun w' => w'.cell? ⟨w2.heap.size, 0, none⟩ = some (.int .i64 sa.pred) ∧ w'.cell? ⟨w2.heap.size, 1, none⟩ = some (.slice aa na ca) ∧ w'.cell? ⟨w1.heap.size, 0, none⟩ = some (.int .i64 P) ∧ w'.cell? ⟨w1.heap.size, 1, none⟩ = some (.slice aq nq cq))
        (first | exact ⟨a0k0, a1k0, q0k0, q1k0⟩ | exact ⟨a0k1, a1k1, q0k1, q1k1⟩ | exact ⟨a0k2, a1k2, q0k2, q1k2⟩)
        (first
          | ((fail_if_success (have hchk := NB1)); go_at_call 19; refine (fits_any sa _ _ f2 _ _ (by exact (AB.out.below NB.out).2.2.1) NA.out oka.out.1 oka.out.2 (by exact OL.out.at) (by omega)).mono ?_; rintro e z7 ⟨rfl, hbb⟩; have hb0 : Below z6.heap.size z6 z7 := ⟨hbb.os, hbb.tape, hbb.output, hbb.size, hbb.block⟩; clear hbb; rw [HFI.out]; have NB1 := Lib.hid (NB.out.trans (hb0.mono NB.out.size)); have OL1 := Lib.hid (OL.out.up hb0); have a0k1 := (AB.out.below NB1.out).1; have a1k1 := (AB.out.below NB1.out).2.1; have q0k1 := (QB.out.below NB1.out).1; have q1k1 := (QB.out.below NB1.out).2.1)
          | ((fail_if_success (have hchk := NB2)); go_at_call 24; refine (HIN.out _ _ _ P f2 (by exact (QB.out.below NB1.out).2.2.1) (by exact OL1.out.at)).mono ?_; rintro e z8 ⟨rfl, hbb⟩; have hb1 : Below z7.heap.size z7 z8 := ⟨hbb.os, hbb.tape, hbb.output, hbb.size, hbb.block⟩; clear hbb; have NB2 := Lib.hid (NB1.out.trans (hb1.mono NB1.out.size)); have a0k2 := (AB.out.below NB2.out).1; have a1k2 := (AB.out.below NB2.out).2.1; have q0k2 := (QB.out.below NB2.out).1; have q1k2 := (QB.out.below NB2.out).2.1; have bx : (instB P ql P f2 == instB P ql P f2) = true := by simp))
      go_wp2
      go_ret
      exact ⟨rfl, NW.out.trans (NB2.out.mono NW.out.size)⟩

end Go.Proofs.Ytlandkindbmbfaa
