/-
  The walk of the law AlphaSpecial: it returns true and leaves what was in memory. Conditions: the arguments are within the form's own reach.
-/
import Derived.Test.YtlandkindbmbfaaK5
namespace Go.Proofs.Ytlandkindbmbfaa
open Go.RowKit Plain
attribute [local go_sem ↓] Go.wp_at_zero Go.wp_at_succ

set_option maxRecDepth 100000 in
set_option maxHeartbeats 32000000 in
theorem special_row (v0 : Value) (x0 : Int × List Slt) {w : World} (h0 : PatArg w v0 x0) (v1 : Value) (x1 : Int × Int × Int) (h1 : TurnArg v1 x1) (v2 : Value) (r : Shp) (h2 : RowArg w v2 r) :
    Calls Try.prog 7 #[v0, v1, v2] w fun e w' => e = .returned (.bool true) ∧ Below w.heap.size w w' := by
  obtain ⟨p, l⟩ := x0
  obtain ⟨x, y, z⟩ := x1
  obtain ⟨u0, rfl, hs0, hi0, hn0, hp0⟩ := h0
  obtain ⟨rfl, hx, hy, hz⟩ := h1
  obtain ⟨u2, rfl, hs2, hn2, hok2, hl2⟩ := h2
  simp only at hs0 hi0 hn0 hp0 hx hy hz ⊢
  obtain ⟨au0, cu0, rfl, _⟩ := hs0.form
  obtain ⟨au2, cu2, rfl, _⟩ := id hs2
  obtain ⟨W0, hW0⟩ : ∃ W0, W0 = ((w.alloc (.cells #[.int .i64 p, .slice au0 l.length cu0] 39)).alloc (.cells #[.int .i64 x, .int .i64 y, .int .i64 z] 41)).alloc (.cells #[.int .i64 r.pred, .slice au2 r.cells.length cu2] 33) := ⟨_, rfl⟩
  have PB := Lib.hid (show PatBox W0 w.heap.size p l (.slice au0 l.length cu0) by rw [hW0]; exact ((PatBox.made hs0).below (up_alloc _ _)).below (up_alloc _ _))
  have TB := Lib.hid (show TurnBox W0 (w.heap.size + 1) x y z by
    have h := (TurnBox.made (w := w.alloc (.cells #[.int .i64 p, .slice au0 l.length cu0] 39)) (x := x) (y := y) (z := z)).below (up_alloc _ (.cells #[.int .i64 r.pred, .slice au2 r.cells.length cu2] 33))
    rw [hW0]; simpa using h)
  have RB := Lib.hid (show ShBox W0 (w.heap.size + 2) r (.slice au2 r.cells.length cu2) by
    have h := ShBox.made33 (w := (w.alloc (.cells #[.int .i64 p, .slice au0 l.length cu0] 39)).alloc (.cells #[.int .i64 x, .int .i64 y, .int .i64 z] 41)) (s := r) (v := .slice au2 r.cells.length cu2) ((hs2.below ((up_alloc w _).trans ((up_alloc _ _).mono (by simp)))).mono (by simp; omega))
    rw [hW0]; simpa [Nat.add_assoc] using h)
  have NW := Lib.hid (show Below w.heap.size w W0 by rw [hW0]; exact ((up_alloc w _).trans ((up_alloc _ _).mono (by simp))).trans ((up_alloc _ _).mono (by simp; omega)))
  obtain ⟨P, hP⟩ : ∃ P, P = prP p := ⟨_, rfl⟩
  obtain ⟨ql, hql⟩ : ∃ ql, ql = l.map pf := ⟨_, rfl⟩
  obtain ⟨ml, hml⟩ : ∃ ml, ml = ql.map (mf x y) := ⟨_, rfl⟩
  obtain ⟨ul, hul⟩ : ∃ ul, ul = ml.map (uf y z) := ⟨_, rfl⟩
  have hPb : 0 ≤ P ∧ P ≤ 9223372036854775807 := by rw [hP]; exact prP_ok hp0
  have qok : ql.all okSlt = true := by rw [hql]; exact pf_ok l
  have mok : ml.all okSlt = true := by rw [hml]; exact mf_ok x y qok
  have uok : ul.all okSlt = true := by rw [hul]; exact uf_ok y z mok
  have qi : I64l ql := by rw [hql]; exact pf_i64 hi0
  have mi : I64l ml := by rw [hml]; exact mf_i64 x y hy qi
  have ui : I64l ul := by rw [hul]; exact uf_i64 y z hz mi
  have qn : ql.length ≤ 8796093021952 := by rw [hql, List.length_map]; exact hn0
  have mn : ml.length ≤ 8796093021952 := by rw [hml, List.length_map]; exact qn
  have un : ul.length ≤ 8796093021952 := by rw [hul, List.length_map]; exact mn
  obtain ⟨sa, hsa⟩ : ∃ sa, sa = shapeB P ql := ⟨_, rfl⟩
  obtain ⟨sb, hsb⟩ : ∃ sb, sb = shapeB P ml := ⟨_, rfl⟩
  obtain ⟨sc, hsc⟩ : ∃ sc, sc = shapeB P ul := ⟨_, rfl⟩
  have oka := Lib.hid (show Okay sa ∧ sa.cells.length ≤ 17592186044400 by rw [hsa]; exact shape_okay hPb qok qi qn)
  have okb := Lib.hid (show Okay sb ∧ sb.cells.length ≤ 17592186044400 by rw [hsb]; exact shape_okay hPb mok mi mn)
  have okc := Lib.hid (show Okay sc ∧ sc.cells.length ≤ 17592186044400 by rw [hsc]; exact shape_okay hPb uok ui un)
  have hab : coversB sa sb = true := by rw [hsa, hsb, hml]; exact sub_covers hPb.1 qok (mf_const x y) (by rw [← hml]; exact mok)
  have hbc : coversB sb sc = true := by rw [hsb, hsc, hul]; exact sub_covers hPb.1 mok (uf_const y z) (by rw [← hul]; exact uok)
  have hac : coversB sa sc = true := by
    have : ul = ql.map (uf y z ∘ mf x y) := by rw [hul, hml, List.map_map]
    rw [hsa, hsc, this]
    exact sub_covers hPb.1 qok (fun c => by simp [mf_const, uf_const]) (by rw [← this]; exact uok)
  have HAA := Lib.hid (show coversB sa sa = true by rw [hsa]; exact covers_refl (shape_valid hPb.1 qok))
  have HAB := Lib.hid hab
  have HBC := Lib.hid hbc
  have HAC := Lib.hid hac
  have HBA := Lib.hid (covers_back hab)
  have HCB := Lib.hid (covers_back hbc)
  have HCA := Lib.hid (covers_back hac)
  have HFC := Lib.hid (show fitsB sc P (ul.map (fl x)) = true by rw [hsc, fits_inst hPb.1 uok]; exact inst_of_fun (fun c => rfl))
  have HFB := Lib.hid (fits_of_covers hbc HFC.out)
  have HFA := Lib.hid (fits_of_covers hab HFB.out)
  have hF1 : fitsB sc r.pred r.cells = true → fitsB sb r.pred r.cells = true := fits_of_covers hbc
  have hF2 : fitsB sb r.pred r.cells = true → fitsB sa r.pred r.cells = true := fits_of_covers hab
  obtain ⟨Fa, hFa⟩ : ∃ Fa, Fa = fitsB sa r.pred r.cells := ⟨_, rfl⟩
  obtain ⟨Fb, hFb⟩ : ∃ Fb, Fb = fitsB sb r.pred r.cells := ⟨_, rfl⟩
  obtain ⟨Fc, hFc⟩ : ∃ Fc, Fc = fitsB sc r.pred r.cells := ⟨_, rfl⟩
  rw [← hFc, ← hFb] at hF1
  rw [← hFb, ← hFa] at hF2
  have HPA := Lib.hid (fun (w' : World) (v : Value) (hv : SlotsAt w' w'.heap.size v l) => (show Calls Try.prog 22 #[.agg #[.int .i64 p, v]] w' (PatIs P ql w') by rw [hP, hql]; exact proper_any p l v w' hv hn0))
  have HSA := Lib.hid (fun (w' : World) (v : Value) (hv : SlotsAt w' w'.heap.size v ql) => (show Calls Try.prog 23 #[.agg #[.int .i64 P, v]] w' (ShapeIs sa w') by rw [hsa]; exact shape_any P ql v w' hv qi qn))
  have HSB := Lib.hid (fun (w' : World) (v : Value) (hv : SlotsAt w' w'.heap.size v ml) => (show Calls Try.prog 23 #[.agg #[.int .i64 P, v]] w' (ShapeIs sb w') by rw [hsb]; exact shape_any P ml v w' hv mi mn))
  have HSC := Lib.hid (fun (w' : World) (v : Value) (hv : SlotsAt w' w'.heap.size v ul) => (show Calls Try.prog 23 #[.agg #[.int .i64 P, v]] w' (ShapeIs sc w') by rw [hsc]; exact shape_any P ul v w' hv ui un))
  have HMG := Lib.hid (fun (w' : World) (v : Value) (hv : SlotsAt w' w'.heap.size v ql) => (show Calls Try.prog 30 #[.agg #[.int .i64 P, v], .int .i64 x, .int .i64 y] w' (PatIs P ml w') by rw [hml]; exact merged_any P ql x y v w' hv qn))
  have HPU := Lib.hid (fun (w' : World) (v : Value) (hv : SlotsAt w' w'.heap.size v ml) => (show Calls Try.prog 31 #[.agg #[.int .i64 P, v], .int .i64 y, .int .i64 z] w' (PatIs P ul w') by rw [hul]; exact put_any P ml y z v w' hv mn))
  have HFL := Lib.hid (fun (w' : World) (v : Value) (hv : SlotsAt w' w'.heap.size v ul) => filled_any P ul x v w' hv un)
  have HQ0 := Lib.hid hPb
  have HR0 := Lib.hid (And.intro hok2 (And.intro hn2 hl2))
  have HF := Lib.hid (And.intro hF1 hF2)
  have HFE := Lib.hid (And.intro hFa (And.intro hFb hFc))
  have HUN := Lib.hid un
  clear hs0 hi0 hn0 hp0 hx hy hz hs2 hn2 hok2 hl2 hP hql hml hul hPb qok mok uok qi mi ui qn mn un hsa hsb hsc hab hbc hac hF1 hF2 hFa hFb hFc
  go_enter Try.func7, Try.ntmps7
  go_wp2_with fail
  rw [← hW0]
  clear hW0
  refine (HPA.out W0 _ PB.out.2.2.1).mono ?_
  rintro e w1 ⟨vq, rfl, hoq, hb⟩
  obtain ⟨aq, nq, cq, rfl⟩ := hoq.form
  replace PB := Lib.hid (PB.out.below hb)
  replace TB := Lib.hid (TB.out.below hb)
  replace RB := Lib.hid (RB.out.below hb)
  replace NW := Lib.hid (NW.out.trans (hb.mono NW.out.size))
  have OQ := Lib.hid hoq.at
  clear hb hoq
  go_wp2_with fail
  generalize hx : w1.alloc (.cells #[.int .i64 P, .slice aq nq cq] 39) = y1
  have hb : Below w1.heap.size w1 y1 := by rw [← hx]; exact up_alloc _ _
  have QB := Lib.hid (show PatBox y1 w1.heap.size P ql (.slice aq nq cq) by rw [← hx]; exact PatBox.made OQ.out)
  replace PB := Lib.hid (PB.out.below hb)
  replace TB := Lib.hid (TB.out.below hb)
  replace RB := Lib.hid (RB.out.below hb)
  replace NW := Lib.hid (NW.out.trans (hb.mono NW.out.size))
  clear hx hb
  refine (HSA.out y1 _ QB.out.2.2.1).mono ?_
  rintro e w2 ⟨va, rfl, hoa, hb⟩
  obtain ⟨aa, na, ca, rfl⟩ := hoa.form
  replace PB := Lib.hid (PB.out.below hb)
  replace TB := Lib.hid (TB.out.below hb)
  replace RB := Lib.hid (RB.out.below hb)
  replace QB := Lib.hid (QB.out.below hb)
  replace NW := Lib.hid (NW.out.trans (hb.mono NW.out.size))
  have OA := Lib.hid hoa.at
  have NA := Lib.hid hoa.nilly
  clear hb hoa
  have q0 := (QB.out.below (up_alloc w2 (.cells #[.int .i64 sa.pred, .slice aa na ca] 27))).1
  have q1 := (QB.out.below (up_alloc w2 (.cells #[.int .i64 sa.pred, .slice aa na ca] 27))).2.1
  have t0 := (TB.out.below (up_alloc w2 (.cells #[.int .i64 sa.pred, .slice aa na ca] 27))).1
  have t1 := (TB.out.below (up_alloc w2 (.cells #[.int .i64 sa.pred, .slice aa na ca] 27))).2.1
  go_wp2_with fail
  generalize hx : w2.alloc (.cells #[.int .i64 sa.pred, .slice aa na ca] 27) = y2
  have hb : Below w2.heap.size w2 y2 := by rw [← hx]; exact up_alloc _ _
  have AB := Lib.hid (show ShBox y2 w2.heap.size sa (.slice aa na ca) by rw [← hx]; exact ShBox.made OA.out)
  replace PB := Lib.hid (PB.out.below hb)
  replace TB := Lib.hid (TB.out.below hb)
  replace RB := Lib.hid (RB.out.below hb)
  replace QB := Lib.hid (QB.out.below hb)
  replace NW := Lib.hid (NW.out.trans (hb.mono NW.out.size))
  clear hx hb
  clear q0 q1 t0 t1
  refine (HMG.out y2 _ QB.out.2.2.1).mono ?_
  rintro e w3 ⟨vm, rfl, hom, hb⟩
  obtain ⟨am, nm, cm, rfl⟩ := hom.form
  replace PB := Lib.hid (PB.out.below hb)
  replace TB := Lib.hid (TB.out.below hb)
  replace RB := Lib.hid (RB.out.below hb)
  replace QB := Lib.hid (QB.out.below hb)
  replace AB := Lib.hid (AB.out.below hb)
  replace NW := Lib.hid (NW.out.trans (hb.mono NW.out.size))
  have OM := Lib.hid hom.at
  clear hb hom
  go_wp2_with fail
  generalize hx : w3.alloc (.cells #[.int .i64 P, .slice am nm cm] 39) = y3
  have hb : Below w3.heap.size w3 y3 := by rw [← hx]; exact up_alloc _ _
  have MB := Lib.hid (show PatBox y3 w3.heap.size P ml (.slice am nm cm) by rw [← hx]; exact PatBox.made OM.out)
  replace PB := Lib.hid (PB.out.below hb)
  replace TB := Lib.hid (TB.out.below hb)
  replace RB := Lib.hid (RB.out.below hb)
  replace QB := Lib.hid (QB.out.below hb)
  replace AB := Lib.hid (AB.out.below hb)
  replace NW := Lib.hid (NW.out.trans (hb.mono NW.out.size))
  clear hx hb
  refine (HSB.out y3 _ MB.out.2.2.1).mono ?_
  rintro e w4 ⟨vb, rfl, hob, hb⟩
  obtain ⟨ab, nb, cb, rfl⟩ := hob.form
  replace PB := Lib.hid (PB.out.below hb)
  replace TB := Lib.hid (TB.out.below hb)
  replace RB := Lib.hid (RB.out.below hb)
  replace QB := Lib.hid (QB.out.below hb)
  replace AB := Lib.hid (AB.out.below hb)
  replace MB := Lib.hid (MB.out.below hb)
  replace NW := Lib.hid (NW.out.trans (hb.mono NW.out.size))
  have OB := Lib.hid hob.at
  have NB := Lib.hid hob.nilly
  clear hb hob
  have q0 := (MB.out.below (up_alloc w4 (.cells #[.int .i64 sb.pred, .slice ab nb cb] 27))).1
  have q1 := (MB.out.below (up_alloc w4 (.cells #[.int .i64 sb.pred, .slice ab nb cb] 27))).2.1
  have t0 := (TB.out.below (up_alloc w4 (.cells #[.int .i64 sb.pred, .slice ab nb cb] 27))).2.1
  have t1 := (TB.out.below (up_alloc w4 (.cells #[.int .i64 sb.pred, .slice ab nb cb] 27))).2.2.1
  go_wp2_with fail
  generalize hx : w4.alloc (.cells #[.int .i64 sb.pred, .slice ab nb cb] 27) = y4
  have hb : Below w4.heap.size w4 y4 := by rw [← hx]; exact up_alloc _ _
  have BB := Lib.hid (show ShBox y4 w4.heap.size sb (.slice ab nb cb) by rw [← hx]; exact ShBox.made OB.out)
  replace PB := Lib.hid (PB.out.below hb)
  replace TB := Lib.hid (TB.out.below hb)
  replace RB := Lib.hid (RB.out.below hb)
  replace QB := Lib.hid (QB.out.below hb)
  replace AB := Lib.hid (AB.out.below hb)
  replace MB := Lib.hid (MB.out.below hb)
  replace NW := Lib.hid (NW.out.trans (hb.mono NW.out.size))
  clear hx hb
  clear q0 q1 t0 t1
  refine (HPU.out y4 _ MB.out.2.2.1).mono ?_
  rintro e w5 ⟨vu, rfl, hou, hb⟩
  obtain ⟨au, nu, cu, rfl⟩ := hou.form
  replace PB := Lib.hid (PB.out.below hb)
  replace TB := Lib.hid (TB.out.below hb)
  replace RB := Lib.hid (RB.out.below hb)
  replace QB := Lib.hid (QB.out.below hb)
  replace AB := Lib.hid (AB.out.below hb)
  replace MB := Lib.hid (MB.out.below hb)
  replace BB := Lib.hid (BB.out.below hb)
  replace NW := Lib.hid (NW.out.trans (hb.mono NW.out.size))
  have OU := Lib.hid hou.at
  clear hb hou
  go_wp2_with fail
  refine (HSC.out w5 _ OU.out).mono ?_
  rintro e w6 ⟨vc, rfl, hoc, hb⟩
  obtain ⟨ac, nc, cc, rfl⟩ := hoc.form
  replace PB := Lib.hid (PB.out.below hb)
  replace TB := Lib.hid (TB.out.below hb)
  replace RB := Lib.hid (RB.out.below hb)
  replace QB := Lib.hid (QB.out.below hb)
  replace AB := Lib.hid (AB.out.below hb)
  replace MB := Lib.hid (MB.out.below hb)
  replace BB := Lib.hid (BB.out.below hb)
  replace NW := Lib.hid (NW.out.trans (hb.mono NW.out.size))
  have OC := Lib.hid hoc.at
  have NC := Lib.hid hoc.nilly
  clear hb hoc
  have a0 := (AB.out.below (up_alloc w6 (.cells #[.int .i64 sc.pred, .slice ac nc cc] 27))).1
  have a1 := (AB.out.below (up_alloc w6 (.cells #[.int .i64 sc.pred, .slice ac nc cc] 27))).2.1
  go_wp2_with fail
  generalize hx : w6.alloc (.cells #[.int .i64 sc.pred, .slice ac nc cc] 27) = y5
  have hb : Below w6.heap.size w6 y5 := by rw [← hx]; exact up_alloc _ _
  have CB := Lib.hid (show ShBox y5 w6.heap.size sc (.slice ac nc cc) by rw [← hx]; exact ShBox.made OC.out)
  replace PB := Lib.hid (PB.out.below hb)
  replace TB := Lib.hid (TB.out.below hb)
  replace RB := Lib.hid (RB.out.below hb)
  replace QB := Lib.hid (QB.out.below hb)
  replace AB := Lib.hid (AB.out.below hb)
  replace MB := Lib.hid (MB.out.below hb)
  replace BB := Lib.hid (BB.out.below hb)
  replace NW := Lib.hid (NW.out.trans (hb.mono NW.out.size))
  clear hx hb
  clear a0 a1
  refine (covers_any sa sa _ _ y5 ⟨_, rfl, AB.out.2.2.1⟩ ⟨_, rfl, AB.out.2.2.1⟩ oka.out.1 oka.out.1).mono ?_
  rintro e w7 ⟨rfl, hb⟩
  replace PB := Lib.hid (PB.out.below hb)
  replace TB := Lib.hid (TB.out.below hb)
  replace RB := Lib.hid (RB.out.below hb)
  replace QB := Lib.hid (QB.out.below hb)
  replace AB := Lib.hid (AB.out.below hb)
  replace MB := Lib.hid (MB.out.below hb)
  replace BB := Lib.hid (BB.out.below hb)
  replace CB := Lib.hid (CB.out.below hb)
  replace NW := Lib.hid (NW.out.trans (hb.mono NW.out.size))
  rw [HAA.out]
  clear hb
  have a0 := AB.out.1
  have a1 := AB.out.2.1
  have b0 := BB.out.1
  have b1 := BB.out.2.1
  go_wp2_with fail
  clear a0 a1 b0 b1
  refine (covers_any sa sb _ _ w7 ⟨_, rfl, AB.out.2.2.1⟩ ⟨_, rfl, BB.out.2.2.1⟩ oka.out.1 okb.out.1).mono ?_
  rintro e w8 ⟨rfl, hb⟩
  replace PB := Lib.hid (PB.out.below hb)
  replace TB := Lib.hid (TB.out.below hb)
  replace RB := Lib.hid (RB.out.below hb)
  replace QB := Lib.hid (QB.out.below hb)
  replace AB := Lib.hid (AB.out.below hb)
  replace MB := Lib.hid (MB.out.below hb)
  replace BB := Lib.hid (BB.out.below hb)
  replace CB := Lib.hid (CB.out.below hb)
  replace NW := Lib.hid (NW.out.trans (hb.mono NW.out.size))
  rw [HAB.out]
  clear hb
  have a0 := BB.out.1
  have a1 := BB.out.2.1
  have b0 := CB.out.1
  have b1 := CB.out.2.1
  go_wp2_with fail
  clear a0 a1 b0 b1
  refine (covers_any sb sc _ _ w8 ⟨_, rfl, BB.out.2.2.1⟩ ⟨_, rfl, CB.out.2.2.1⟩ okb.out.1 okc.out.1).mono ?_
  rintro e w9 ⟨rfl, hb⟩
  replace PB := Lib.hid (PB.out.below hb)
  replace TB := Lib.hid (TB.out.below hb)
  replace RB := Lib.hid (RB.out.below hb)
  replace QB := Lib.hid (QB.out.below hb)
  replace AB := Lib.hid (AB.out.below hb)
  replace MB := Lib.hid (MB.out.below hb)
  replace BB := Lib.hid (BB.out.below hb)
  replace CB := Lib.hid (CB.out.below hb)
  replace NW := Lib.hid (NW.out.trans (hb.mono NW.out.size))
  rw [HBC.out]
  clear hb
  have a0 := AB.out.1
  have a1 := AB.out.2.1
  have b0 := CB.out.1
  have b1 := CB.out.2.1
  go_wp2_with fail
  clear a0 a1 b0 b1
  refine (covers_any sa sc _ _ w9 ⟨_, rfl, AB.out.2.2.1⟩ ⟨_, rfl, CB.out.2.2.1⟩ oka.out.1 okc.out.1).mono ?_
  rintro e w10 ⟨rfl, hb⟩
  replace PB := Lib.hid (PB.out.below hb)
  replace TB := Lib.hid (TB.out.below hb)
  replace RB := Lib.hid (RB.out.below hb)
  replace QB := Lib.hid (QB.out.below hb)
  replace AB := Lib.hid (AB.out.below hb)
  replace MB := Lib.hid (MB.out.below hb)
  replace BB := Lib.hid (BB.out.below hb)
  replace CB := Lib.hid (CB.out.below hb)
  replace NW := Lib.hid (NW.out.trans (hb.mono NW.out.size))
  rw [HAC.out]
  clear hb
  have a0k0 := AB.out.1
  have a1k0 := AB.out.2.1
  have b0k0 := BB.out.1
  have b1k0 := BB.out.2.1
  have c0k0 := CB.out.1
  have c1k0 := CB.out.2.1
  have bx1 : (sameB sa sb != sameB sa sb) = false := by simp
  have bx2 : (sameB sb sc != sameB sb sc) = false := by simp
  have bx3 : (sameB sa sc != sameB sa sc) = false := by simp
  go_wp2_with fail
  go_region_held3 (fun w' => w'.cell? ⟨w2.heap.size, 0, none⟩ = some (.int .i64 sa.pred) ∧ w'.cell? ⟨w2.heap.size, 1, none⟩ = some (.slice aa na ca) ∧ w'.cell? ⟨w4.heap.size, 0, none⟩ = some (.int .i64 sb.pred) ∧ w'.cell? ⟨w4.heap.size, 1, none⟩ = some (.slice ab nb cb) ∧ w'.cell? ⟨w6.heap.size, 0, none⟩ = some (.int .i64 sc.pred) ∧ w'.cell? ⟨w6.heap.size, 1, none⟩ = some (.slice ac nc cc))
    (first | exact ⟨a0k0, a1k0, b0k0, b1k0, c0k0, c1k0⟩ | exact ⟨a0k1, a1k1, b0k1, b1k1, c0k1, c1k1⟩ | exact ⟨a0k2, a1k2, b0k2, b1k2, c0k2, c1k2⟩ | exact ⟨a0k3, a1k3, b0k3, b1k3, c0k3, c1k3⟩ | exact ⟨a0k4, a1k4, b0k4, b1k4, c0k4, c1k4⟩ | exact ⟨a0k5, a1k5, b0k5, b1k5, c0k5, c1k5⟩ | exact ⟨a0k6, a1k6, b0k6, b1k6, c0k6, c1k6⟩)
    (first
      | ((fail_if_success (have hchk := hb0)); go_at_call 14; refine (covers_any sb sa _ _ _ ⟨_, rfl, by exact BB.out.2.2.1⟩ ⟨_, rfl, by exact AB.out.2.2.1⟩ okb.out.1 oka.out.1).mono ?_; rintro e v1 ⟨rfl, hbb⟩; have hb0 : Below w10.heap.size w10 v1 := ⟨hbb.os, hbb.tape, hbb.output, hbb.size, hbb.block⟩; clear hbb; rw [HBA.out]; have AB1 := Lib.hid (AB.out.below hb0); have BB1 := Lib.hid (BB.out.below hb0); have CB1 := Lib.hid (CB.out.below hb0); have a0k1 := AB1.out.1; have a1k1 := AB1.out.2.1; have b0k1 := BB1.out.1; have b1k1 := BB1.out.2.1; have c0k1 := CB1.out.1; have c1k1 := CB1.out.2.1)
      | ((fail_if_success (have hchk := hb1)); go_at_call 32; refine (same_any sa sb _ _ _ ⟨_, rfl, by exact AB1.out.2.2.1⟩ ⟨_, rfl, by exact BB1.out.2.2.1⟩ oka.out.1 okb.out.1).mono ?_; rintro e v2 ⟨rfl, hbb⟩; have hb1 : Below v1.heap.size v1 v2 := ⟨hbb.os, hbb.tape, hbb.output, hbb.size, hbb.block⟩; clear hbb; have AB2 := Lib.hid (AB1.out.below hb1); have BB2 := Lib.hid (BB1.out.below hb1); have CB2 := Lib.hid (CB1.out.below hb1); have a0k2 := AB2.out.1; have a1k2 := AB2.out.2.1; have b0k2 := BB2.out.1; have b1k2 := BB2.out.2.1; have c0k2 := CB2.out.1; have c1k2 := CB2.out.2.1)
      | ((fail_if_success (have hchk := hb2)); go_at_call 14; refine (covers_any sc sb _ _ _ ⟨_, rfl, by exact CB2.out.2.2.1⟩ ⟨_, rfl, by exact BB2.out.2.2.1⟩ okc.out.1 okb.out.1).mono ?_; rintro e v3 ⟨rfl, hbb⟩; have hb2 : Below v2.heap.size v2 v3 := ⟨hbb.os, hbb.tape, hbb.output, hbb.size, hbb.block⟩; clear hbb; rw [HCB.out]; have AB3 := Lib.hid (AB2.out.below hb2); have BB3 := Lib.hid (BB2.out.below hb2); have CB3 := Lib.hid (CB2.out.below hb2); have a0k3 := AB3.out.1; have a1k3 := AB3.out.2.1; have b0k3 := BB3.out.1; have b1k3 := BB3.out.2.1; have c0k3 := CB3.out.1; have c1k3 := CB3.out.2.1)
      | ((fail_if_success (have hchk := hb3)); go_at_call 32; refine (same_any sb sc _ _ _ ⟨_, rfl, by exact BB3.out.2.2.1⟩ ⟨_, rfl, by exact CB3.out.2.2.1⟩ okb.out.1 okc.out.1).mono ?_; rintro e v4 ⟨rfl, hbb⟩; have hb3 : Below v3.heap.size v3 v4 := ⟨hbb.os, hbb.tape, hbb.output, hbb.size, hbb.block⟩; clear hbb; have AB4 := Lib.hid (AB3.out.below hb3); have BB4 := Lib.hid (BB3.out.below hb3); have CB4 := Lib.hid (CB3.out.below hb3); have a0k4 := AB4.out.1; have a1k4 := AB4.out.2.1; have b0k4 := BB4.out.1; have b1k4 := BB4.out.2.1; have c0k4 := CB4.out.1; have c1k4 := CB4.out.2.1)
      | ((fail_if_success (have hchk := hb4)); go_at_call 14; refine (covers_any sc sa _ _ _ ⟨_, rfl, by exact CB4.out.2.2.1⟩ ⟨_, rfl, by exact AB4.out.2.2.1⟩ okc.out.1 oka.out.1).mono ?_; rintro e v5 ⟨rfl, hbb⟩; have hb4 : Below v4.heap.size v4 v5 := ⟨hbb.os, hbb.tape, hbb.output, hbb.size, hbb.block⟩; clear hbb; rw [HCA.out]; have AB5 := Lib.hid (AB4.out.below hb4); have BB5 := Lib.hid (BB4.out.below hb4); have CB5 := Lib.hid (CB4.out.below hb4); have a0k5 := AB5.out.1; have a1k5 := AB5.out.2.1; have b0k5 := BB5.out.1; have b1k5 := BB5.out.2.1; have c0k5 := CB5.out.1; have c1k5 := CB5.out.2.1)
      | ((fail_if_success (have hchk := hb5)); go_at_call 32; refine (same_any sa sc _ _ _ ⟨_, rfl, by exact AB5.out.2.2.1⟩ ⟨_, rfl, by exact CB5.out.2.2.1⟩ oka.out.1 okc.out.1).mono ?_; rintro e v6 ⟨rfl, hbb⟩; have hb5 : Below v5.heap.size v5 v6 := ⟨hbb.os, hbb.tape, hbb.output, hbb.size, hbb.block⟩; clear hbb; have AB6 := Lib.hid (AB5.out.below hb5); have BB6 := Lib.hid (BB5.out.below hb5); have CB6 := Lib.hid (CB5.out.below hb5); have a0k6 := AB6.out.1; have a1k6 := AB6.out.2.1; have b0k6 := BB6.out.1; have b1k6 := BB6.out.2.1; have c0k6 := CB6.out.1; have c1k6 := CB6.out.2.1))
  have g1 := hb0.trans (hb1.mono hb0.size)
  have g2 := g1.trans (hb2.mono g1.size)
  have g3 := g2.trans (hb3.mono g2.size)
  have g4 := g3.trans (hb4.mono g3.size)
  have hb := g4.trans (hb5.mono g4.size)
  replace PB := Lib.hid (PB.out.below hb)
  replace TB := Lib.hid (TB.out.below hb)
  replace RB := Lib.hid (RB.out.below hb)
  replace QB := Lib.hid (QB.out.below hb)
  replace AB := Lib.hid (AB.out.below hb)
  replace MB := Lib.hid (MB.out.below hb)
  replace BB := Lib.hid (BB.out.below hb)
  replace CB := Lib.hid (CB.out.below hb)
  replace NW := Lib.hid (NW.out.trans (hb.mono NW.out.size))
  clear a0k0 a1k0 b0k0 b1k0 c0k0 c1k0
  clear a0k1 a1k1 b0k1 b1k1 c0k1 c1k1
  clear a0k2 a1k2 b0k2 b1k2 c0k2 c1k2
  clear a0k3 a1k3 b0k3 b1k3 c0k3 c1k3
  clear a0k4 a1k4 b0k4 b1k4 c0k4 c1k4
  clear a0k5 a1k5 b0k5 b1k5 c0k5 c1k5
  clear a0k6 a1k6 b0k6 b1k6 c0k6 c1k6
  clear hb g1 g2 g3 g4 hb0 hb1 hb2 hb3 hb4 hb5 bx1 bx2 bx3 AB1 BB1 CB1 AB2 BB2 CB2 AB3 BB3 CB3 AB4 BB4 CB4 AB5 BB5 CB5 AB6 BB6 CB6
  have a0 := AB.out.1
  have a1 := AB.out.2.1
  have r0 := RB.out.1
  have r1 := RB.out.2.1
  go_wp2_with fail
  clear a0 a1 r0 r1
  refine (fits_any sa _ r.pred r.cells _ v6 AB.out.2.2.1 NA.out oka.out.1 oka.out.2 RB.out.2.2.1 (by have := HR0.out.2.2; omega)).mono ?_
  rintro e z1 ⟨rfl, hb⟩
  replace PB := Lib.hid (PB.out.below hb)
  replace TB := Lib.hid (TB.out.below hb)
  replace RB := Lib.hid (RB.out.below hb)
  replace QB := Lib.hid (QB.out.below hb)
  replace AB := Lib.hid (AB.out.below hb)
  replace MB := Lib.hid (MB.out.below hb)
  replace BB := Lib.hid (BB.out.below hb)
  replace CB := Lib.hid (CB.out.below hb)
  replace NW := Lib.hid (NW.out.trans (hb.mono NW.out.size))
  rw [← HFE.out.1]
  clear hb
  have a0 := BB.out.1
  have a1 := BB.out.2.1
  have r0 := RB.out.1
  have r1 := RB.out.2.1
  go_wp2_with fail
  clear a0 a1 r0 r1
  refine (fits_any sb _ r.pred r.cells _ z1 BB.out.2.2.1 NB.out okb.out.1 okb.out.2 RB.out.2.2.1 (by have := HR0.out.2.2; omega)).mono ?_
  rintro e z2 ⟨rfl, hb⟩
  replace PB := Lib.hid (PB.out.below hb)
  replace TB := Lib.hid (TB.out.below hb)
  replace RB := Lib.hid (RB.out.below hb)
  replace QB := Lib.hid (QB.out.below hb)
  replace AB := Lib.hid (AB.out.below hb)
  replace MB := Lib.hid (MB.out.below hb)
  replace BB := Lib.hid (BB.out.below hb)
  replace CB := Lib.hid (CB.out.below hb)
  replace NW := Lib.hid (NW.out.trans (hb.mono NW.out.size))
  rw [← HFE.out.2.1]
  clear hb
  have a0 := CB.out.1
  have a1 := CB.out.2.1
  have r0 := RB.out.1
  have r1 := RB.out.2.1
  go_wp2_with fail
  clear a0 a1 r0 r1
  refine (fits_any sc _ r.pred r.cells _ z2 CB.out.2.2.1 NC.out okc.out.1 okc.out.2 RB.out.2.2.1 (by have := HR0.out.2.2; omega)).mono ?_
  rintro e z3 ⟨rfl, hb⟩
  replace PB := Lib.hid (PB.out.below hb)
  replace TB := Lib.hid (TB.out.below hb)
  replace RB := Lib.hid (RB.out.below hb)
  replace QB := Lib.hid (QB.out.below hb)
  replace AB := Lib.hid (AB.out.below hb)
  replace MB := Lib.hid (MB.out.below hb)
  replace BB := Lib.hid (BB.out.below hb)
  replace CB := Lib.hid (CB.out.below hb)
  replace NW := Lib.hid (NW.out.trans (hb.mono NW.out.size))
  rw [← HFE.out.2.2]
  clear hb
  have e1 := HF.out.1
  have e2 := HF.out.2
  clear HF HFE
  cases Fc <;> cases Fb <;> cases Fa
  · clear e1 e2
    have m0k0 := MB.out.1
    have m1k0 := MB.out.2.1
    have t0k0 := TB.out.1
    have t1k0 := TB.out.2.1
    have t2k0 := TB.out.2.2.1
    go_wp2_with fail
    go_region_held3 (fun w' => w'.cell? ⟨w3.heap.size, 0, none⟩ = some (.int .i64 P) ∧ w'.cell? ⟨w3.heap.size, 1, none⟩ = some (.slice am nm cm) ∧ w'.cell? ⟨w.heap.size + 1, 0, none⟩ = some (.int .i64 x) ∧ w'.cell? ⟨w.heap.size + 1, 1, none⟩ = some (.int .i64 y) ∧ w'.cell? ⟨w.heap.size + 1, 2, none⟩ = some (.int .i64 z))
      (first | exact ⟨m0k0, m1k0, t0k0, t1k0, t2k0⟩ | exact ⟨m0k1, m1k1, t0k1, t1k1, t2k1⟩ | exact ⟨m0k2, m1k2, t0k2, t1k2, t2k2⟩)
      (first
        | (go_at_call 31; refine (HPU.out _ _ (by exact MB.out.2.2.1)).mono ?_; rintro e q1 ⟨vu2, rfl, hou, hbb⟩; have hb0 : Below z3.heap.size z3 q1 := ⟨hbb.os, hbb.tape, hbb.output, hbb.size, hbb.block⟩; clear hbb; obtain ⟨au2, nu2, cu2, rfl⟩ := hou.form; have OU2 := Lib.hid hou.at; clear hou; have MB1 := Lib.hid (MB.out.below hb0); have TB1 := Lib.hid (TB.out.below hb0); have m0k1 := MB1.out.1; have m1k1 := MB1.out.2.1; have t0k1 := TB1.out.1; have t1k1 := TB1.out.2.1; have t2k1 := TB1.out.2.2.1)
        | (go_at_call 25; refine (HFL.out _ _ (by exact OU2.out)).mono ?_; rintro e q2 ⟨vf, rfl, hof, hbb⟩; have hb1 : Below q1.heap.size q1 q2 := ⟨hbb.os, hbb.tape, hbb.output, hbb.size, hbb.block⟩; clear hbb; have OF := Lib.hid (IntsAt.mono hof.at (Nat.le_refl _)); clear hof; have MB2 := Lib.hid (MB1.out.below hb1); have TB2 := Lib.hid (TB1.out.below hb1); have m0k2 := MB2.out.1; have m1k2 := MB2.out.2.1; have t0k2 := TB2.out.1; have t1k2 := TB2.out.2.1; have t2k2 := TB2.out.2.2.1))
    have hb := hb0.trans (hb1.mono hb0.size)
    replace PB := Lib.hid (PB.out.below hb)
    replace TB := Lib.hid (TB.out.below hb)
    replace RB := Lib.hid (RB.out.below hb)
    replace QB := Lib.hid (QB.out.below hb)
    replace AB := Lib.hid (AB.out.below hb)
    replace MB := Lib.hid (MB.out.below hb)
    replace BB := Lib.hid (BB.out.below hb)
    replace CB := Lib.hid (CB.out.below hb)
    replace NW := Lib.hid (NW.out.trans (hb.mono NW.out.size))
    clear m0k0 m1k0 t0k0 t1k0 t2k0
    clear m0k1 m1k1 t0k1 t1k1 t2k1
    clear m0k2 m1k2 t0k2 t1k2 t2k2
    clear hb hb0 hb1 MB1 TB1 MB2 TB2
    have hfl : (ul.map (fl x)).length ≤ 35184372088832 := by rw [List.length_map]; have := HUN.out; omega
    generalize hfr : ul.map (fl x) = fr at *
    clear hfr
    obtain ⟨nf, cf, rfl, _⟩ := id OF.out
    have a0 := CB.out.1
    have a1 := CB.out.2.1
    have r0 := QB.out.1
    go_wp2_with fail
    clear a0 a1 r0
    refine (fits_any sc _ P fr _ q2 CB.out.2.2.1 NC.out okc.out.1 okc.out.2 OF.out hfl).mono ?_
    rintro e q3 ⟨rfl, hb⟩
    replace PB := Lib.hid (PB.out.below hb)
    replace TB := Lib.hid (TB.out.below hb)
    replace RB := Lib.hid (RB.out.below hb)
    replace QB := Lib.hid (QB.out.below hb)
    replace AB := Lib.hid (AB.out.below hb)
    replace MB := Lib.hid (MB.out.below hb)
    replace BB := Lib.hid (BB.out.below hb)
    replace CB := Lib.hid (CB.out.below hb)
    replace NW := Lib.hid (NW.out.trans (hb.mono NW.out.size))
    rw [HFC.out]
    replace OF := Lib.hid ((OF.out.below hb).mono hb.size)
    clear hb
    have a0 := BB.out.1
    have a1 := BB.out.2.1
    have r0 := QB.out.1
    go_wp2_with fail
    clear a0 a1 r0
    refine (fits_any sb _ P fr _ q3 BB.out.2.2.1 NB.out okb.out.1 okb.out.2 OF.out hfl).mono ?_
    rintro e q4 ⟨rfl, hb⟩
    replace PB := Lib.hid (PB.out.below hb)
    replace TB := Lib.hid (TB.out.below hb)
    replace RB := Lib.hid (RB.out.below hb)
    replace QB := Lib.hid (QB.out.below hb)
    replace AB := Lib.hid (AB.out.below hb)
    replace MB := Lib.hid (MB.out.below hb)
    replace BB := Lib.hid (BB.out.below hb)
    replace CB := Lib.hid (CB.out.below hb)
    replace NW := Lib.hid (NW.out.trans (hb.mono NW.out.size))
    rw [HFB.out]
    replace OF := Lib.hid ((OF.out.below hb).mono hb.size)
    clear hb
    have a0 := AB.out.1
    have a1 := AB.out.2.1
    have r0 := QB.out.1
    go_wp2_with fail
    clear a0 a1 r0
    refine (fits_any sa _ P fr _ q4 AB.out.2.2.1 NA.out oka.out.1 oka.out.2 OF.out hfl).mono ?_
    rintro e q5 ⟨rfl, hb⟩
    replace PB := Lib.hid (PB.out.below hb)
    replace TB := Lib.hid (TB.out.below hb)
    replace RB := Lib.hid (RB.out.below hb)
    replace QB := Lib.hid (QB.out.below hb)
    replace AB := Lib.hid (AB.out.below hb)
    replace MB := Lib.hid (MB.out.below hb)
    replace BB := Lib.hid (BB.out.below hb)
    replace CB := Lib.hid (CB.out.below hb)
    replace NW := Lib.hid (NW.out.trans (hb.mono NW.out.size))
    rw [HFA.out]
    replace OF := Lib.hid ((OF.out.below hb).mono hb.size)
    clear hb
    go_wp2
    go_ret
    exact ⟨rfl, NW.out⟩
  · clear e1 e2
    have m0k0 := MB.out.1
    have m1k0 := MB.out.2.1
    have t0k0 := TB.out.1
    have t1k0 := TB.out.2.1
    have t2k0 := TB.out.2.2.1
    go_wp2_with fail
    go_region_held3 (fun w' => w'.cell? ⟨w3.heap.size, 0, none⟩ = some (.int .i64 P) ∧ w'.cell? ⟨w3.heap.size, 1, none⟩ = some (.slice am nm cm) ∧ w'.cell? ⟨w.heap.size + 1, 0, none⟩ = some (.int .i64 x) ∧ w'.cell? ⟨w.heap.size + 1, 1, none⟩ = some (.int .i64 y) ∧ w'.cell? ⟨w.heap.size + 1, 2, none⟩ = some (.int .i64 z))
      (first | exact ⟨m0k0, m1k0, t0k0, t1k0, t2k0⟩ | exact ⟨m0k1, m1k1, t0k1, t1k1, t2k1⟩ | exact ⟨m0k2, m1k2, t0k2, t1k2, t2k2⟩)
      (first
        | (go_at_call 31; refine (HPU.out _ _ (by exact MB.out.2.2.1)).mono ?_; rintro e q1 ⟨vu2, rfl, hou, hbb⟩; have hb0 : Below z3.heap.size z3 q1 := ⟨hbb.os, hbb.tape, hbb.output, hbb.size, hbb.block⟩; clear hbb; obtain ⟨au2, nu2, cu2, rfl⟩ := hou.form; have OU2 := Lib.hid hou.at; clear hou; have MB1 := Lib.hid (MB.out.below hb0); have TB1 := Lib.hid (TB.out.below hb0); have m0k1 := MB1.out.1; have m1k1 := MB1.out.2.1; have t0k1 := TB1.out.1; have t1k1 := TB1.out.2.1; have t2k1 := TB1.out.2.2.1)
        | (go_at_call 25; refine (HFL.out _ _ (by exact OU2.out)).mono ?_; rintro e q2 ⟨vf, rfl, hof, hbb⟩; have hb1 : Below q1.heap.size q1 q2 := ⟨hbb.os, hbb.tape, hbb.output, hbb.size, hbb.block⟩; clear hbb; have OF := Lib.hid (IntsAt.mono hof.at (Nat.le_refl _)); clear hof; have MB2 := Lib.hid (MB1.out.below hb1); have TB2 := Lib.hid (TB1.out.below hb1); have m0k2 := MB2.out.1; have m1k2 := MB2.out.2.1; have t0k2 := TB2.out.1; have t1k2 := TB2.out.2.1; have t2k2 := TB2.out.2.2.1))
    have hb := hb0.trans (hb1.mono hb0.size)
    replace PB := Lib.hid (PB.out.below hb)
    replace TB := Lib.hid (TB.out.below hb)
    replace RB := Lib.hid (RB.out.below hb)
    replace QB := Lib.hid (QB.out.below hb)
    replace AB := Lib.hid (AB.out.below hb)
    replace MB := Lib.hid (MB.out.below hb)
    replace BB := Lib.hid (BB.out.below hb)
    replace CB := Lib.hid (CB.out.below hb)
    replace NW := Lib.hid (NW.out.trans (hb.mono NW.out.size))
    clear m0k0 m1k0 t0k0 t1k0 t2k0
    clear m0k1 m1k1 t0k1 t1k1 t2k1
    clear m0k2 m1k2 t0k2 t1k2 t2k2
    clear hb hb0 hb1 MB1 TB1 MB2 TB2
    have hfl : (ul.map (fl x)).length ≤ 35184372088832 := by rw [List.length_map]; have := HUN.out; omega
    generalize hfr : ul.map (fl x) = fr at *
    clear hfr
    obtain ⟨nf, cf, rfl, _⟩ := id OF.out
    have a0 := CB.out.1
    have a1 := CB.out.2.1
    have r0 := QB.out.1
    go_wp2_with fail
    clear a0 a1 r0
    refine (fits_any sc _ P fr _ q2 CB.out.2.2.1 NC.out okc.out.1 okc.out.2 OF.out hfl).mono ?_
    rintro e q3 ⟨rfl, hb⟩
    replace PB := Lib.hid (PB.out.below hb)
    replace TB := Lib.hid (TB.out.below hb)
    replace RB := Lib.hid (RB.out.below hb)
    replace QB := Lib.hid (QB.out.below hb)
    replace AB := Lib.hid (AB.out.below hb)
    replace MB := Lib.hid (MB.out.below hb)
    replace BB := Lib.hid (BB.out.below hb)
    replace CB := Lib.hid (CB.out.below hb)
    replace NW := Lib.hid (NW.out.trans (hb.mono NW.out.size))
    rw [HFC.out]
    replace OF := Lib.hid ((OF.out.below hb).mono hb.size)
    clear hb
    have a0 := BB.out.1
    have a1 := BB.out.2.1
    have r0 := QB.out.1
    go_wp2_with fail
    clear a0 a1 r0
    refine (fits_any sb _ P fr _ q3 BB.out.2.2.1 NB.out okb.out.1 okb.out.2 OF.out hfl).mono ?_
    rintro e q4 ⟨rfl, hb⟩
    replace PB := Lib.hid (PB.out.below hb)
    replace TB := Lib.hid (TB.out.below hb)
    replace RB := Lib.hid (RB.out.below hb)
    replace QB := Lib.hid (QB.out.below hb)
    replace AB := Lib.hid (AB.out.below hb)
    replace MB := Lib.hid (MB.out.below hb)
    replace BB := Lib.hid (BB.out.below hb)
    replace CB := Lib.hid (CB.out.below hb)
    replace NW := Lib.hid (NW.out.trans (hb.mono NW.out.size))
    rw [HFB.out]
    replace OF := Lib.hid ((OF.out.below hb).mono hb.size)
    clear hb
    have a0 := AB.out.1
    have a1 := AB.out.2.1
    have r0 := QB.out.1
    go_wp2_with fail
    clear a0 a1 r0
    refine (fits_any sa _ P fr _ q4 AB.out.2.2.1 NA.out oka.out.1 oka.out.2 OF.out hfl).mono ?_
    rintro e q5 ⟨rfl, hb⟩
    replace PB := Lib.hid (PB.out.below hb)
    replace TB := Lib.hid (TB.out.below hb)
    replace RB := Lib.hid (RB.out.below hb)
    replace QB := Lib.hid (QB.out.below hb)
    replace AB := Lib.hid (AB.out.below hb)
    replace MB := Lib.hid (MB.out.below hb)
    replace BB := Lib.hid (BB.out.below hb)
    replace CB := Lib.hid (CB.out.below hb)
    replace NW := Lib.hid (NW.out.trans (hb.mono NW.out.size))
    rw [HFA.out]
    replace OF := Lib.hid ((OF.out.below hb).mono hb.size)
    clear hb
    go_wp2
    go_ret
    exact ⟨rfl, NW.out⟩
  · exact absurd (e2 rfl) (by simp)
  · clear e1 e2
    have m0k0 := MB.out.1
    have m1k0 := MB.out.2.1
    have t0k0 := TB.out.1
    have t1k0 := TB.out.2.1
    have t2k0 := TB.out.2.2.1
    go_wp2_with fail
    go_region_held3 (fun w' => w'.cell? ⟨w3.heap.size, 0, none⟩ = some (.int .i64 P) ∧ w'.cell? ⟨w3.heap.size, 1, none⟩ = some (.slice am nm cm) ∧ w'.cell? ⟨w.heap.size + 1, 0, none⟩ = some (.int .i64 x) ∧ w'.cell? ⟨w.heap.size + 1, 1, none⟩ = some (.int .i64 y) ∧ w'.cell? ⟨w.heap.size + 1, 2, none⟩ = some (.int .i64 z))
      (first | exact ⟨m0k0, m1k0, t0k0, t1k0, t2k0⟩ | exact ⟨m0k1, m1k1, t0k1, t1k1, t2k1⟩ | exact ⟨m0k2, m1k2, t0k2, t1k2, t2k2⟩)
      (first
        | (go_at_call 31; refine (HPU.out _ _ (by exact MB.out.2.2.1)).mono ?_; rintro e q1 ⟨vu2, rfl, hou, hbb⟩; have hb0 : Below z3.heap.size z3 q1 := ⟨hbb.os, hbb.tape, hbb.output, hbb.size, hbb.block⟩; clear hbb; obtain ⟨au2, nu2, cu2, rfl⟩ := hou.form; have OU2 := Lib.hid hou.at; clear hou; have MB1 := Lib.hid (MB.out.below hb0); have TB1 := Lib.hid (TB.out.below hb0); have m0k1 := MB1.out.1; have m1k1 := MB1.out.2.1; have t0k1 := TB1.out.1; have t1k1 := TB1.out.2.1; have t2k1 := TB1.out.2.2.1)
        | (go_at_call 25; refine (HFL.out _ _ (by exact OU2.out)).mono ?_; rintro e q2 ⟨vf, rfl, hof, hbb⟩; have hb1 : Below q1.heap.size q1 q2 := ⟨hbb.os, hbb.tape, hbb.output, hbb.size, hbb.block⟩; clear hbb; have OF := Lib.hid (IntsAt.mono hof.at (Nat.le_refl _)); clear hof; have MB2 := Lib.hid (MB1.out.below hb1); have TB2 := Lib.hid (TB1.out.below hb1); have m0k2 := MB2.out.1; have m1k2 := MB2.out.2.1; have t0k2 := TB2.out.1; have t1k2 := TB2.out.2.1; have t2k2 := TB2.out.2.2.1))
    have hb := hb0.trans (hb1.mono hb0.size)
    replace PB := Lib.hid (PB.out.below hb)
    replace TB := Lib.hid (TB.out.below hb)
    replace RB := Lib.hid (RB.out.below hb)
    replace QB := Lib.hid (QB.out.below hb)
    replace AB := Lib.hid (AB.out.below hb)
    replace MB := Lib.hid (MB.out.below hb)
    replace BB := Lib.hid (BB.out.below hb)
    replace CB := Lib.hid (CB.out.below hb)
    replace NW := Lib.hid (NW.out.trans (hb.mono NW.out.size))
    clear m0k0 m1k0 t0k0 t1k0 t2k0
    clear m0k1 m1k1 t0k1 t1k1 t2k1
    clear m0k2 m1k2 t0k2 t1k2 t2k2
    clear hb hb0 hb1 MB1 TB1 MB2 TB2
    have hfl : (ul.map (fl x)).length ≤ 35184372088832 := by rw [List.length_map]; have := HUN.out; omega
    generalize hfr : ul.map (fl x) = fr at *
    clear hfr
    obtain ⟨nf, cf, rfl, _⟩ := id OF.out
    have a0 := CB.out.1
    have a1 := CB.out.2.1
    have r0 := QB.out.1
    go_wp2_with fail
    clear a0 a1 r0
    refine (fits_any sc _ P fr _ q2 CB.out.2.2.1 NC.out okc.out.1 okc.out.2 OF.out hfl).mono ?_
    rintro e q3 ⟨rfl, hb⟩
    replace PB := Lib.hid (PB.out.below hb)
    replace TB := Lib.hid (TB.out.below hb)
    replace RB := Lib.hid (RB.out.below hb)
    replace QB := Lib.hid (QB.out.below hb)
    replace AB := Lib.hid (AB.out.below hb)
    replace MB := Lib.hid (MB.out.below hb)
    replace BB := Lib.hid (BB.out.below hb)
    replace CB := Lib.hid (CB.out.below hb)
    replace NW := Lib.hid (NW.out.trans (hb.mono NW.out.size))
    rw [HFC.out]
    replace OF := Lib.hid ((OF.out.below hb).mono hb.size)
    clear hb
    have a0 := BB.out.1
    have a1 := BB.out.2.1
    have r0 := QB.out.1
    go_wp2_with fail
    clear a0 a1 r0
    refine (fits_any sb _ P fr _ q3 BB.out.2.2.1 NB.out okb.out.1 okb.out.2 OF.out hfl).mono ?_
    rintro e q4 ⟨rfl, hb⟩
    replace PB := Lib.hid (PB.out.below hb)
    replace TB := Lib.hid (TB.out.below hb)
    replace RB := Lib.hid (RB.out.below hb)
    replace QB := Lib.hid (QB.out.below hb)
    replace AB := Lib.hid (AB.out.below hb)
    replace MB := Lib.hid (MB.out.below hb)
    replace BB := Lib.hid (BB.out.below hb)
    replace CB := Lib.hid (CB.out.below hb)
    replace NW := Lib.hid (NW.out.trans (hb.mono NW.out.size))
    rw [HFB.out]
    replace OF := Lib.hid ((OF.out.below hb).mono hb.size)
    clear hb
    have a0 := AB.out.1
    have a1 := AB.out.2.1
    have r0 := QB.out.1
    go_wp2_with fail
    clear a0 a1 r0
    refine (fits_any sa _ P fr _ q4 AB.out.2.2.1 NA.out oka.out.1 oka.out.2 OF.out hfl).mono ?_
    rintro e q5 ⟨rfl, hb⟩
    replace PB := Lib.hid (PB.out.below hb)
    replace TB := Lib.hid (TB.out.below hb)
    replace RB := Lib.hid (RB.out.below hb)
    replace QB := Lib.hid (QB.out.below hb)
    replace AB := Lib.hid (AB.out.below hb)
    replace MB := Lib.hid (MB.out.below hb)
    replace BB := Lib.hid (BB.out.below hb)
    replace CB := Lib.hid (CB.out.below hb)
    replace NW := Lib.hid (NW.out.trans (hb.mono NW.out.size))
    rw [HFA.out]
    replace OF := Lib.hid ((OF.out.below hb).mono hb.size)
    clear hb
    go_wp2
    go_ret
    exact ⟨rfl, NW.out⟩
  · exact absurd (e1 rfl) (by simp)
  · exact absurd (e1 rfl) (by simp)
  · exact absurd (e2 rfl) (by simp)
  · clear e1 e2
    have m0k0 := MB.out.1
    have m1k0 := MB.out.2.1
    have t0k0 := TB.out.1
    have t1k0 := TB.out.2.1
    have t2k0 := TB.out.2.2.1
    go_wp2_with fail
    go_region_held3 (fun w' => w'.cell? ⟨w3.heap.size, 0, none⟩ = some (.int .i64 P) ∧ w'.cell? ⟨w3.heap.size, 1, none⟩ = some (.slice am nm cm) ∧ w'.cell? ⟨w.heap.size + 1, 0, none⟩ = some (.int .i64 x) ∧ w'.cell? ⟨w.heap.size + 1, 1, none⟩ = some (.int .i64 y) ∧ w'.cell? ⟨w.heap.size + 1, 2, none⟩ = some (.int .i64 z))
      (first | exact ⟨m0k0, m1k0, t0k0, t1k0, t2k0⟩ | exact ⟨m0k1, m1k1, t0k1, t1k1, t2k1⟩ | exact ⟨m0k2, m1k2, t0k2, t1k2, t2k2⟩)
      (first
        | (go_at_call 31; refine (HPU.out _ _ (by exact MB.out.2.2.1)).mono ?_; rintro e q1 ⟨vu2, rfl, hou, hbb⟩; have hb0 : Below z3.heap.size z3 q1 := ⟨hbb.os, hbb.tape, hbb.output, hbb.size, hbb.block⟩; clear hbb; obtain ⟨au2, nu2, cu2, rfl⟩ := hou.form; have OU2 := Lib.hid hou.at; clear hou; have MB1 := Lib.hid (MB.out.below hb0); have TB1 := Lib.hid (TB.out.below hb0); have m0k1 := MB1.out.1; have m1k1 := MB1.out.2.1; have t0k1 := TB1.out.1; have t1k1 := TB1.out.2.1; have t2k1 := TB1.out.2.2.1)
        | (go_at_call 25; refine (HFL.out _ _ (by exact OU2.out)).mono ?_; rintro e q2 ⟨vf, rfl, hof, hbb⟩; have hb1 : Below q1.heap.size q1 q2 := ⟨hbb.os, hbb.tape, hbb.output, hbb.size, hbb.block⟩; clear hbb; have OF := Lib.hid (IntsAt.mono hof.at (Nat.le_refl _)); clear hof; have MB2 := Lib.hid (MB1.out.below hb1); have TB2 := Lib.hid (TB1.out.below hb1); have m0k2 := MB2.out.1; have m1k2 := MB2.out.2.1; have t0k2 := TB2.out.1; have t1k2 := TB2.out.2.1; have t2k2 := TB2.out.2.2.1))
    have hb := hb0.trans (hb1.mono hb0.size)
    replace PB := Lib.hid (PB.out.below hb)
    replace TB := Lib.hid (TB.out.below hb)
    replace RB := Lib.hid (RB.out.below hb)
    replace QB := Lib.hid (QB.out.below hb)
    replace AB := Lib.hid (AB.out.below hb)
    replace MB := Lib.hid (MB.out.below hb)
    replace BB := Lib.hid (BB.out.below hb)
    replace CB := Lib.hid (CB.out.below hb)
    replace NW := Lib.hid (NW.out.trans (hb.mono NW.out.size))
    clear m0k0 m1k0 t0k0 t1k0 t2k0
    clear m0k1 m1k1 t0k1 t1k1 t2k1
    clear m0k2 m1k2 t0k2 t1k2 t2k2
    clear hb hb0 hb1 MB1 TB1 MB2 TB2
    have hfl : (ul.map (fl x)).length ≤ 35184372088832 := by rw [List.length_map]; have := HUN.out; omega
    generalize hfr : ul.map (fl x) = fr at *
    clear hfr
    obtain ⟨nf, cf, rfl, _⟩ := id OF.out
    have a0 := CB.out.1
    have a1 := CB.out.2.1
    have r0 := QB.out.1
    go_wp2_with fail
    clear a0 a1 r0
    refine (fits_any sc _ P fr _ q2 CB.out.2.2.1 NC.out okc.out.1 okc.out.2 OF.out hfl).mono ?_
    rintro e q3 ⟨rfl, hb⟩
    replace PB := Lib.hid (PB.out.below hb)
    replace TB := Lib.hid (TB.out.below hb)
    replace RB := Lib.hid (RB.out.below hb)
    replace QB := Lib.hid (QB.out.below hb)
    replace AB := Lib.hid (AB.out.below hb)
    replace MB := Lib.hid (MB.out.below hb)
    replace BB := Lib.hid (BB.out.below hb)
    replace CB := Lib.hid (CB.out.below hb)
    replace NW := Lib.hid (NW.out.trans (hb.mono NW.out.size))
    rw [HFC.out]
    replace OF := Lib.hid ((OF.out.below hb).mono hb.size)
    clear hb
    have a0 := BB.out.1
    have a1 := BB.out.2.1
    have r0 := QB.out.1
    go_wp2_with fail
    clear a0 a1 r0
    refine (fits_any sb _ P fr _ q3 BB.out.2.2.1 NB.out okb.out.1 okb.out.2 OF.out hfl).mono ?_
    rintro e q4 ⟨rfl, hb⟩
    replace PB := Lib.hid (PB.out.below hb)
    replace TB := Lib.hid (TB.out.below hb)
    replace RB := Lib.hid (RB.out.below hb)
    replace QB := Lib.hid (QB.out.below hb)
    replace AB := Lib.hid (AB.out.below hb)
    replace MB := Lib.hid (MB.out.below hb)
    replace BB := Lib.hid (BB.out.below hb)
    replace CB := Lib.hid (CB.out.below hb)
    replace NW := Lib.hid (NW.out.trans (hb.mono NW.out.size))
    rw [HFB.out]
    replace OF := Lib.hid ((OF.out.below hb).mono hb.size)
    clear hb
    have a0 := AB.out.1
    have a1 := AB.out.2.1
    have r0 := QB.out.1
    go_wp2_with fail
    clear a0 a1 r0
    refine (fits_any sa _ P fr _ q4 AB.out.2.2.1 NA.out oka.out.1 oka.out.2 OF.out hfl).mono ?_
    rintro e q5 ⟨rfl, hb⟩
    replace PB := Lib.hid (PB.out.below hb)
    replace TB := Lib.hid (TB.out.below hb)
    replace RB := Lib.hid (RB.out.below hb)
    replace QB := Lib.hid (QB.out.below hb)
    replace AB := Lib.hid (AB.out.below hb)
    replace MB := Lib.hid (MB.out.below hb)
    replace BB := Lib.hid (BB.out.below hb)
    replace CB := Lib.hid (CB.out.below hb)
    replace NW := Lib.hid (NW.out.trans (hb.mono NW.out.size))
    rw [HFA.out]
    replace OF := Lib.hid ((OF.out.below hb).mono hb.size)
    clear hb
    go_wp2
    go_ret
    exact ⟨rfl, NW.out⟩

end Go.Proofs.Ytlandkindbmbfaa
