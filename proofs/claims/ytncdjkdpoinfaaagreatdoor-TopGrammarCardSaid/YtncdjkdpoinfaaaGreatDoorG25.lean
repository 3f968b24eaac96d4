/-
  Texts of this seat, one behind the other: W52. Conditions: those that each of them states.
-/
import Derived.Test.YtncdjkdpoinfaaaGreatDoorG24
import Derived.Test.YtncdjkdpoinfaaaGreatDoorG3
/-
  The walk of edicttop.TopGrammar: it returns true. Condition: the variables hold what the program's text lays.
-/
namespace Go.Proofs.YtncdjkdpoinfaaaGreatDoor
open Go.RowKit Go.Shelf Pl

def fixedP : ByteArray := { data := #[112, 40, 88, 41, 32, 58, 45, 32, 113, 40, 88, 44, 32, 95, 41, 44, 32, 110, 111, 116, 32, 114, 44, 32, 88, 32, 33, 61, 32, 51, 46] }
theorem fixedP_L : L fixedP = Gr.fixP := rfl
theorem set_free (evs : List Gr.Ev) (i : Nat) (hi : i < evs.length) :
    ((((evs.take i).map Gr.Ev.free) ++ evs.drop i).flatMap evV).set (i * 6 + 5) (.int .i64 (-1)) = (((evs.take (i + 1)).map Gr.Ev.free) ++ evs.drop (i + 1)).flatMap evV := by
  have hl : ∀ xs : List Gr.Ev, (xs.flatMap evV).length = xs.length * 6 := by
    intro xs
    induction xs with
    | nil => rfl
    | cons e es ih => simp only [List.flatMap_cons, List.length_append, ih, List.length_cons]; simp only [evV, List.length_cons, List.length_nil]; omega
  rw [List.drop_eq_getElem_cons hi, Gr.take_snoc hi]
  simp only [List.map_append, List.map_cons, List.map_nil, List.flatMap_append, List.flatMap_cons, List.append_assoc, List.flatMap_nil]
  have h1 : (((evs.take i).map Gr.Ev.free).flatMap evV).length = i * 6 := by rw [hl, List.length_map, List.length_take, Nat.min_eq_left (Nat.le_of_lt hi)]
  rw [List.set_append, if_neg (by rw [h1]; omega), h1, show i * 6 + 5 - i * 6 = 5 by omega]
  rfl
theorem free_len (evs : List Gr.Ev) (i : Nat) : (((evs.take i).map Gr.Ev.free) ++ evs.drop i).length = evs.length := by
  simp only [List.length_append, List.length_map, List.length_take, List.length_drop]
  omega
/-- The law's parts ahead of the text's tokens. -/
theorem cst_cells {w : World} {base cap g n : Nat} {xs : List Gr.Trm} (h : w.ownsRow base 57 3 (.slice (some ⟨g, 0, none⟩) n cap) xs.length (flatC xs)) {i : Nat} (hi : i < xs.length) :
    w.cell? ⟨g, i * 3, none⟩ = some (.int .i64 (xs[i].kind : Int)) ∧ w.cell? ⟨g, i * 3 + 1, none⟩ = some (.int .i64 xs[i].int) ∧ w.cell? ⟨g, i * 3 + 2, none⟩ = some (.string ⟨xs[i].text.toArray⟩) := by
  have hat : ∀ (ys : List Gr.Trm) (i : Nat) (hi : i < ys.length) (j : Nat), j < 3 → (flatC ys)[i * 3 + j]? = (cstL ys[i])[j]? := by
    intro ys
    induction ys with
    | nil => intro i hi; simp at hi
    | cons x xs ih =>
      intro i hi j hj
      simp only [flatC, List.flatMap_cons]
      cases i with
      | zero =>
        rw [Nat.zero_mul, Nat.zero_add, List.getElem?_append_left (by simp [cstL]; omega)]
        rfl
      | succ i =>
        rw [List.getElem?_append_right (by simp [cstL]; omega), show (i + 1) * 3 + j - (cstL x).length = i * 3 + j by simp [cstL]; omega]
        exact ih i (by simpa using hi) j hj
  have hn : n = xs.length := by
    rcases Joins.ownsRow_forms h with ⟨h5, h6⟩ | ⟨g', cap', h5⟩
    · cases h5
    · injection h5
  subst hn
  have hc : ∀ j (hj : j < 3), w.cell? ⟨g, i * 3 + j, none⟩ = (cstL xs[i])[j]? := fun j hj => by
    rw [World.ownsRow.cellAt h (i * 3 + j) (by omega), hat xs i hi j hj]
  exact ⟨hc 0 (by omega), hc 1 (by omega), hc 2 (by omega)⟩
/-- Memory while the law copies a fact's constants. -/
structure CpIn (w0 : World) (c : Nat) (x : Gr.Atm) (w : World) : Prop where
  bel : Below w0.heap.size w0 w
  blk : ∃ sl, w.heap[c]? = some (.cells #[.string ⟨x.pred.toArray⟩, sl, .int .i64 0] 32) ∧ w.ownsRow w0.heap.size 59 4 sl x.args.length (flatX x.args)
theorem cp_push {w0 w w8 : World} {c n : Nat} {o : Obj} {pred : List UInt8} {xs ys : List Gr.Trm} {y : Gr.Trm} {sl v' : Value} (hc : w0.heap.size ≤ c) (hb : Below w0.heap.size w0 w)
    (h1 : w.heap[c]? = some (.cells #[.string ⟨pred.toArray⟩, sl, .int .i64 0] 32)) (h2 : w.ownsRow w0.heap.size 59 4 sl n (flatX xs)) (hg : (w.alloc o).grownBy w8 sl.ownBlock) (ho : w8.ownsRow w0.heap.size 59 4 v' (n + 1) (flatX xs ++ trmL y)) (hy : ys = xs ++ [y]) (hn : ys.length = n + 1) :
    Hid (w8.cell? ⟨c, 1, none⟩ = some sl ∧ w8.frozen? ⟨c, 1, none⟩ = false ∧ Kt (fun t => t ≠ 59) w w8 ∧ w8.heap[c]? = some (.cells #[.string ⟨pred.toArray⟩, sl, .int .i64 0] 32) ∧ ∀ u, u = v' → CpIn w0 c ⟨pred, ys, 0⟩ (w8.setCell ⟨c, 1, none⟩ u)) := by
  have k : Kt (fun t => t ≠ 59) w w8 := (Kt.alloc w o).trans (Kt.grown hg (h2.alloc o) (by simp))
  have hC8 := k _ _ _ h1 (by decide)
  refine Lib.hid ⟨(row32 hC8).2.1, (row32 hC8).2.2.2.2.1, k, hC8, fun u hu => ?_⟩
  subst hu
  have ks : Kt (fun t => t ≠ 32) w8 (w8.setCell ⟨c, 1, none⟩ u) := Kt.set (p := ⟨c, 1, none⟩) hC8 (by simp)
  refine ⟨(grown_below (hb.alloc hb.size o) hg (h2.alloc o) (Nat.le_refl _)).setCell (p := ⟨c, 1, none⟩) hc _, u, ?_, ?_⟩
  · simp [World.setCell, Array.getElem?_modify, hC8]
  · simp only
    rw [hn, hy, flatX_snoc]
    exact ks.own (by decide) ho

set_option maxRecDepth 100000 in
set_option maxHeartbeats 12800000 in
theorem grammar_row (s : ByteArray) (B : Nat) (w : World) (hG : Gl B w) :
    Calls Tryz.prog 3 #[.string s] w fun e w' => e = .returned (.bool true) ∧ Below w.heap.size w w' := by
  obtain ⟨i62, bi, b0, b1, b2⟩ := info_parts Tryz.info62
  obtain ⟨i59, ci, d0, d1, d2⟩ := info_parts Tryz.info59
  have HGZ := Lib.hid hG.lt
  have HG := Lib.hid hG
  clear hG
  go_enter Tryz.func3, Tryz.ntmps3
  go_wp2_with fail
  refine (parse_prog fixedP B Gr.fixT (0, 0) _ (by decide) (by rw [fixedP_L]; exact Gr.fixP_sc) HG.out (by decide)).mono ?_
  rintro e w1 ⟨res, hres, hb1, he⟩
  obtain ⟨c0, hc3, rfl⟩ := Gr.fix_prog hres
  obtain ⟨sl, rfl, hv⟩ := he
  obtain ⟨rows, hA, hOw⟩ := hv
  obtain ⟨g, cap, rfl⟩ := Joins.ownsRow_form hOw (by simp)
  obtain ⟨row, ⟨al, bl, hrow, _, hbl⟩, hcell⟩ := rowsM (m := 4) hA (fun x r h => by obtain ⟨sl, bl, e, _⟩ := h; rw [e]; rfl) hOw (i := 0) (by simp) (by omega)
  obtain ⟨ba, bc, rfl⟩ := hbl.form
  have hx0 : ([c0] : List Gr.Cls)[0].body.length = 3 := hc3
  rw [hx0] at hrow
  have m3 : w1.cell? ⟨g, 3, none⟩ = some (.slice ba 3 bc) := by
    have := hcell 3 (by omega)
    rw [hrow] at this
    simpa [clsL] using this
  have HM3 := Lib.hid m3
  have HB1 := Lib.hid hb1
  rw [faultV_cells]
  clear hres hb1 hA hOw hrow hbl hcell hx0 m3
  go_upto_region 2 with fail
  obtain ⟨w2, hw2⟩ : ∃ w2, w2 = (w1.alloc (.cells #[.slice (some ⟨g, 0, none⟩) 1 cap] 24)).alloc (.cells #[.int .i64 0, .int .i64 0, .int .i64 0] 27) := ⟨_, rfl⟩
  rw [← hw2]
  have HX2 : Hid (w2.heap[w1.heap.size]? = some (.cells #[.slice (some ⟨g, 0, none⟩) 1 cap] 24)) := Lib.hid (by rw [hw2]; exact (two_heap _ _ rfl).1)
  have HY2 : Hid (w2.heap[w1.heap.size + 1]? = some (.cells #[.int .i64 0, .int .i64 0, .int .i64 0] 27)) := Lib.hid (by rw [hw2]; exact (two_heap _ _ rfl).2)
  have HB2 : Hid (Below w.heap.size w w2) := Lib.hid (by rw [hw2]; exact (HB1.out.alloc HB1.out.size _).alloc (by have := HB1.out.size; simp; omega) _)
  have m3 : w2.cell? ⟨g, 3, none⟩ = some (.slice ba 3 bc) := by
    have hlt := World.block_lt_of_cell? _ _ HM3.out
    have hbb : Below w1.heap.size w1 w2 := by rw [hw2]; exact (up_alloc _ _).alloc (by simp) _
    rw [hbb.cell hlt]; exact HM3.out
  obtain ⟨t0, tf0⟩ := row1c HX2.out
  obtain ⟨u0, u1, u2, uf0, uf1, uf2⟩ := row3 HY2.out
  have HGB2 := Lib.hid (HG.out.below (HB2.out.mono HGZ.out))
  clear hw2
  go_wp2_with fail
  clear t0 tf0 u0 u1 u2 uf0 uf1 uf2 m3
  by_cases hs : s.size ≤ 65536
  · have hgt : decide ((s.size : Int) > 65536) = false := decide_eq_false (by omega)
    obtain ⟨ts, f, hsc⟩ : ∃ ts f, Sc (L s) 0 ts f := ⟨_, _, by have h := scan_Sc (L s) (s.size + 1) 0 (by rw [L_len]; omega) (Nat.zero_le _); exact h⟩
    have hts : ts.length ≤ 70000 := by
      have := sc_len hsc (Nat.zero_le _)
      rw [L_len] at this
      omega
    have HSC := Lib.hid hsc
    have HSH := Lib.hid (Gr.sc_shp hsc)
    clear hsc
    refine (scanned_any s ts f B _ hs HGB2.out HSC.out).mono ?_
    rintro e w3 ⟨v, rfl, ho3, hb3⟩
    rw [faultV_cells]
    obtain ⟨n, hn0⟩ : ∃ n, n = ts.length := ⟨_, rfl⟩
    obtain ⟨va, vc, rfl⟩ : ∃ va vc, v = .slice va n vc := by
      rcases Joins.ownsRow_forms ho3 with ⟨h5, h6⟩ | ⟨g, cap, h5⟩
      · exact ⟨none, 0, by rw [h5, hn0, h6]⟩
      · exact ⟨_, cap, by rw [h5, hn0]⟩
    have HO3 := Lib.hid ho3
    have HB3 := Lib.hid (HB2.out.trans (hb3.mono HB2.out.size))
    clear ho3 hb3 hn0
    go_upto_region 5 with fail
    obtain ⟨v1, hv1⟩ : ∃ v1, v1 = w3.alloc (.cells #[.int .i64 (f.1 : Int), .int .i64 0, .int .i64 (f.2 : Int)] 27) := ⟨_, rfl⟩
    rw [← hv1]
    have HLV : Hid (v1.heap[w3.heap.size]? = some (.cells #[.int .i64 (f.1 : Int), .int .i64 0, .int .i64 (f.2 : Int)] 27)) := Lib.hid (by rw [hv1]; exact heap_alloc_new _ _)
    have HOV : Hid (v1.ownsRow w2.heap.size 62 6 (.slice va n vc) ts.length (flatT ts)) := Lib.hid (by rw [hv1]; exact HO3.out.alloc _)
    have HBV : Hid (Below w.heap.size w v1) := Lib.hid (by rw [hv1]; exact HB3.out.alloc HB3.out.size _)
    obtain ⟨l, hl0⟩ : ∃ l, l = w3.heap.size := ⟨_, rfl⟩
    rw [← hl0] at HLV ⊢
    clear hv1 hl0
    go_wp2_with fail
    refine (programOf_any s B ts f v1 hs HSC.out (HG.out.below (HBV.out.mono HGZ.out)) hts).mono ?_
    rintro e w4 ⟨⟨xa, xn, xc, xk, xo, rfl⟩, hb4⟩
    rw [faultV_cells]
    have HL4 := Lib.hid (Kt.below (T := fun _ => True) hb4 _ _ _ HLV.out trivial)
    have HO4 := Lib.hid ((Kt.below (T := fun _ => True) hb4).own trivial HOV.out)
    have HB4 := Lib.hid (HBV.out.trans (hb4.mono HBV.out.size))
    clear hb4
    go_upto_region 15 with fail
    obtain ⟨v2, hv2⟩ : ∃ v2, v2 = (w4.alloc (.cells #[.slice xa xn xc] 24)).alloc (.cells #[.int .i64 (xk : Int), .int .i64 0, .int .i64 (xo : Int)] 27) := ⟨_, rfl⟩
    rw [← hv2]
    have k2 : Kt (fun _ => True) w4 v2 := by rw [hv2]; exact (Kt.alloc w4 _).trans (Kt.alloc _ _)
    have HL5 := Lib.hid (k2 _ _ _ HL4.out trivial)
    have HO5 := Lib.hid (k2.own trivial HO4.out)
    have HB5 : Hid (Below w.heap.size w v2) := Lib.hid (by rw [hv2]; exact (HB4.out.alloc HB4.out.size _).alloc (by have := HB4.out.size; simp; omega) _)
    clear hv2 k2
    go_wp2_with fail
    refine (factsOf_any s B ts f v2 hs HSC.out (HG.out.below (HB5.out.mono HGZ.out)) hts).mono ?_
    rintro e w6 ⟨⟨xa, xn, xc, xk, xo, rfl⟩, hb6⟩
    rw [faultV_cells]
    have HL6 := Lib.hid (Kt.below (T := fun _ => True) hb6 _ _ _ HL5.out trivial)
    have HO6 := Lib.hid ((Kt.below (T := fun _ => True) hb6).own trivial HO5.out)
    have HB6 := Lib.hid (HB5.out.trans (hb6.mono HB5.out.size))
    clear hb6
    go_upto_region 16 with fail
    obtain ⟨v3, hv3⟩ : ∃ v3, v3 = w6.alloc (.cells #[.int .i64 (xk : Int), .int .i64 0, .int .i64 (xo : Int)] 27) := ⟨_, rfl⟩
    rw [← hv3]
    have k3 : Kt (fun _ => True) w6 v3 := by rw [hv3]; exact Kt.alloc w6 _
    have HL7 := Lib.hid (k3 _ _ _ HL6.out trivial)
    have HO7 := Lib.hid (k3.own trivial HO6.out)
    have HB7 : Hid (Below w.heap.size w v3) := Lib.hid (by rw [hv3]; exact HB6.out.alloc HB6.out.size _)
    clear hv3 k3
    go_wp2_with fail
    refine (queryOf_any s B ts f v3 hs HSC.out (HG.out.below (HB7.out.mono HGZ.out)) hts).mono ?_
    rintro e w8 ⟨⟨xa, xn, xc, xk, xo, rfl⟩, hb8⟩
    rw [faultV_cells]
    have HL8 := Lib.hid (Kt.below (T := fun _ => True) hb8 _ _ _ HL7.out trivial)
    have HO8 := Lib.hid ((Kt.below (T := fun _ => True) hb8).own trivial HO7.out)
    have HB8 := Lib.hid (HB7.out.trans (hb8.mono HB7.out.size))
    clear hb8
    go_upto_region 17 with fail
    obtain ⟨v4, hv4⟩ : ∃ v4, v4 = w8.alloc (.cells #[.int .i64 (xk : Int), .int .i64 0, .int .i64 (xo : Int)] 27) := ⟨_, rfl⟩
    rw [← hv4]
    have k4 : Kt (fun _ => True) w8 v4 := by rw [hv4]; exact Kt.alloc w8 _
    have HL9 := Lib.hid (k4 _ _ _ HL8.out trivial)
    have HO9 := Lib.hid (k4.own trivial HO8.out)
    have HB9 : Hid (Below w.heap.size w v4) := Lib.hid (by rw [hv4]; exact HB8.out.alloc HB8.out.size _)
    clear hv4 k4
    go_wp2_with fail
    refine (parse_fact s B ts f v4 hs HSC.out (HG.out.below (HB9.out.mono HGZ.out)) hts).mono ?_
    rintro e wa ⟨res, hres, hba, he⟩
    have hlaw := Gr.fact_law (f := f) (ts := ts)
    rw [← hres] at hlaw
    have HLa := Lib.hid (Kt.below (T := fun _ => True) hba _ _ _ HL9.out trivial)
    have HOa := Lib.hid ((Kt.below (T := fun _ => True) hba).own trivial HO9.out)
    have HBa := Lib.hid (HB9.out.trans (hba.mono HB9.out.size))
    have HSa := Lib.hid HB9.out.size
    clear hba
    cases res with
    | error F =>
      obtain ⟨he, hne⟩ := he
      subst he
      rw [faultV_cells]
      have HLAW : Hid (Gr.J f false (beginN 3) 0 0 0 ts = F) := Lib.hid hlaw
      have ec : ((F.1 : Int) != 0) = true := by simp; omega
      clear hres hlaw hne
      go_upto_region 18 with fail
      obtain ⟨v5, hv5⟩ : ∃ v5, v5 = (wa.alloc (.cells #[.string { data := #[] }, .slice none 0 0] 46)).alloc (.cells #[.int .i64 (F.1 : Int), .int .i64 0, .int .i64 (F.2 : Int)] 27) := ⟨_, rfl⟩
      rw [← hv5]
      have k5 : Kt (fun _ => True) wa v5 := by rw [hv5]; exact (Kt.alloc wa _).trans (Kt.alloc _ _)
      have HLb := Lib.hid (k5 _ _ _ HLa.out trivial)
      have HOb := Lib.hid (k5.own trivial HOa.out)
      have HPb : Hid (v5.heap[wa.heap.size]? = some (.cells #[.string { data := #[] }, .slice none 0 0] 46)) := Lib.hid (by rw [hv5]; exact (two_heap _ _ rfl).1)
      have HQb : Hid (v5.heap[wa.heap.size + 1]? = some (.cells #[.int .i64 (F.1 : Int), .int .i64 0, .int .i64 (F.2 : Int)] 27)) := Lib.hid (by rw [hv5]; exact (two_heap _ _ rfl).2)
      have HBb : Hid (Below w.heap.size w v5) := Lib.hid (by rw [hv5]; exact (HBa.out.alloc HBa.out.size _).alloc (by have := HBa.out.size; simp; omega) _)
      obtain ⟨pb, hpb⟩ : ∃ pb, pb = wa.heap.size := ⟨_, rfl⟩
      obtain ⟨qb, hqb⟩ : ∃ qb, qb = wa.heap.size + 1 := ⟨_, rfl⟩
      rw [← hqb] at HQb ⊢
      rw [← hpb] at HPb ⊢
      clear hv5 k5 hpb hqb
      have hne := fault_ne (F.1 : Int) (F.2 : Int)
      have hnot : ∀ (x : Bool) (w : World), (Op.unary .not (.bool x)).run Tryz.prog w = .ok (.bool (!x)) w := fun _ _ => rfl
      refine wp_region_H (fun z => z.heap[l]? = some (.cells #[.int .i64 (f.1 : Int), .int .i64 0, .int .i64 (f.2 : Int)] 27) ∧ z.heap[qb]? = some (.cells #[.int .i64 (F.1 : Int), .int .i64 0, .int .i64 (F.2 : Int)] 27)) (by kernel_rfl) ?_
      have hS : v5.drew.heap[l]? = some (.cells #[.int .i64 (f.1 : Int), .int .i64 0, .int .i64 (f.2 : Int)] 27) ∧ v5.drew.heap[qb]? = some (.cells #[.int .i64 (F.1 : Int), .int .i64 0, .int .i64 (F.2 : Int)] 27) := ⟨HLb.out, HQb.out⟩
      refine wpAnyH_tk 0 (some 128) (.bool true) rfl rfl (by kernel_rfl) (fun _ _ _ h => h) (by assumption) (Or.inl ⟨by kernel_rfl, fun z hx => ?_⟩) ?_
      · obtain ⟨hxa, hxb⟩ := hx
        obtain ⟨l0, l1, l2, lf0, lf1, lf2⟩ := row3 hxa
        obtain ⟨q0, q1, q2, qf0, qf1, qf2⟩ := row3 hxb
        clear hxa hxb
        go_simp
        try rfl
      refine wpAnyH_tk 1 (some 129) (.bool false) rfl rfl (by kernel_rfl) (fun _ _ _ h => h) (by assumption) (Or.inl ⟨by kernel_rfl, fun z hx => ?_⟩) ?_
      · obtain ⟨hxa, hxb⟩ := hx
        obtain ⟨l0, l1, l2, lf0, lf1, lf2⟩ := row3 hxa
        obtain ⟨q0, q1, q2, qf0, qf1, qf2⟩ := row3 hxb
        clear hxa hxb
        go_simp
        try rfl
      refine wpAnyH_tk 2 (some 130) (.bool false) rfl rfl (by kernel_rfl) (fun _ _ _ h => h) (by assumption) (Or.inl ⟨by kernel_rfl, fun z hx => ?_⟩) ?_
      · obtain ⟨hxa, hxb⟩ := hx
        obtain ⟨l0, l1, l2, lf0, lf1, lf2⟩ := row3 hxa
        obtain ⟨q0, q1, q2, qf0, qf1, qf2⟩ := row3 hxb
        clear hxa hxb
        go_simp
        try rfl
      refine wpAnyH_tk 3 (some 131) (.bool true) rfl rfl (by kernel_rfl) (fun _ _ _ h => h) (by assumption) (Or.inl ⟨by kernel_rfl, fun z hx => ?_⟩) ?_
      · obtain ⟨hxa, hxb⟩ := hx
        obtain ⟨l0, l1, l2, lf0, lf1, lf2⟩ := row3 hxa
        obtain ⟨q0, q1, q2, qf0, qf1, qf2⟩ := row3 hxb
        clear hxa hxb
        go_simp
        try rfl
      refine wpAnyH_tk 4 (some 132) (.bool false) rfl rfl (by kernel_rfl) (fun _ _ _ h => h) (by assumption) (Or.inl ⟨by kernel_rfl, fun z hx => ?_⟩) ?_
      · obtain ⟨hxa, hxb⟩ := hx
        obtain ⟨l0, l1, l2, lf0, lf1, lf2⟩ := row3 hxa
        obtain ⟨q0, q1, q2, qf0, qf1, qf2⟩ := row3 hxb
        clear hxa hxb
        go_simp
        try rfl
      refine wpAnyH_tk 5 (some 133) (.bool false) rfl rfl (by kernel_rfl) (fun _ _ _ h => h) (by assumption) (Or.inl ⟨by kernel_rfl, fun z hx => ?_⟩) ?_
      · obtain ⟨hxa, hxb⟩ := hx
        obtain ⟨l0, l1, l2, lf0, lf1, lf2⟩ := row3 hxa
        obtain ⟨q0, q1, q2, qf0, qf1, qf2⟩ := row3 hxb
        clear hxa hxb
        go_simp
        try rfl
      refine wpAnyH_tk 6 (some 134) (.bool false) rfl rfl (by kernel_rfl) (fun _ _ _ h => h) (by assumption) (Or.inl ⟨by kernel_rfl, fun z hx => ?_⟩) ?_
      · obtain ⟨hxa, hxb⟩ := hx
        obtain ⟨l0, l1, l2, lf0, lf1, lf2⟩ := row3 hxa
        obtain ⟨q0, q1, q2, qf0, qf1, qf2⟩ := row3 hxb
        clear hxa hxb
        go_simp
        try rfl
      refine wpAnyH_tk 7 (some 135) (.bool true) rfl rfl (by kernel_rfl) (fun _ _ _ h => h) (by assumption) (Or.inl ⟨by kernel_rfl, fun z hx => ?_⟩) ?_
      · obtain ⟨hxa, hxb⟩ := hx
        obtain ⟨l0, l1, l2, lf0, lf1, lf2⟩ := row3 hxa
        obtain ⟨q0, q1, q2, qf0, qf1, qf2⟩ := row3 hxb
        clear hxa hxb
        go_simp
        try rfl
      refine wpAnyH_tk 8 (some 136) (.bool false) rfl rfl (by kernel_rfl) (fun _ _ _ h => h) (by assumption) (Or.inl ⟨by kernel_rfl, fun z hx => ?_⟩) ?_
      · obtain ⟨hxa, hxb⟩ := hx
        obtain ⟨l0, l1, l2, lf0, lf1, lf2⟩ := row3 hxa
        obtain ⟨q0, q1, q2, qf0, qf1, qf2⟩ := row3 hxb
        clear hxa hxb
        go_simp
        try rfl
      refine wpAnyH_tk 9 (some 137) (.bool false) rfl rfl (by kernel_rfl) (fun _ _ _ h => h) (by assumption) (Or.inl ⟨by kernel_rfl, fun z hx => ?_⟩) ?_
      · obtain ⟨hxa, hxb⟩ := hx
        obtain ⟨l0, l1, l2, lf0, lf1, lf2⟩ := row3 hxa
        obtain ⟨q0, q1, q2, qf0, qf1, qf2⟩ := row3 hxb
        clear hxa hxb
        go_simp
        try rfl
      refine wpAnyH_tk 10 (some 138) (.bool false) rfl rfl (by kernel_rfl) (fun _ _ _ h => h) (by assumption) (Or.inl ⟨by kernel_rfl, fun z hx => ?_⟩) ?_
      · obtain ⟨hxa, hxb⟩ := hx
        obtain ⟨l0, l1, l2, lf0, lf1, lf2⟩ := row3 hxa
        obtain ⟨q0, q1, q2, qf0, qf1, qf2⟩ := row3 hxb
        clear hxa hxb
        go_simp
        try rfl
      refine wpAnyH_tk 11 (some 139) (.agg #[.int .i64 (F.1 : Int), .int .i64 0, .int .i64 (F.2 : Int)]) rfl rfl (by kernel_rfl) (fun _ _ _ h => h) (by assumption) (Or.inl ⟨by kernel_rfl, fun z hx => ?_⟩) ?_
      · obtain ⟨hxa, hxb⟩ := hx
        obtain ⟨l0, l1, l2, lf0, lf1, lf2⟩ := row3 hxa
        obtain ⟨q0, q1, q2, qf0, qf1, qf2⟩ := row3 hxb
        clear hxa hxb
        go_simp
        try rfl
      refine wpAnyH_tk 12 (some 140) (.slice va n vc) rfl rfl (by kernel_rfl) (fun _ _ _ h => h) (by assumption) (Or.inl ⟨by kernel_rfl, fun z hx => ?_⟩) ?_
      · obtain ⟨hxa, hxb⟩ := hx
        obtain ⟨l0, l1, l2, lf0, lf1, lf2⟩ := row3 hxa
        obtain ⟨q0, q1, q2, qf0, qf1, qf2⟩ := row3 hxb
        clear hxa hxb
        go_simp
        try rfl
      refine wpAnyH_tk 13 (some 141) (.agg #[.int .i64 (f.1 : Int), .int .i64 0, .int .i64 (f.2 : Int)]) rfl rfl (by kernel_rfl) (fun _ _ _ h => h) (by assumption) (Or.inl ⟨by kernel_rfl, fun z hx => ?_⟩) ?_
      · obtain ⟨hxa, hxb⟩ := hx
        obtain ⟨l0, l1, l2, lf0, lf1, lf2⟩ := row3 hxa
        obtain ⟨q0, q1, q2, qf0, qf1, qf2⟩ := row3 hxb
        clear hxa hxb
        go_simp
        try rfl
      refine wpAnyH_one 14 rfl (by kernel_rfl) (fun K' hK' => ?_)
      rw [if_pos (by kernel_rfl)]
      go_simp
      go_at_call 12
      refine (judged_any ts f _ _ 3 false v5.drew HOb.out rfl hts).mono ?_
      rintro e wc ⟨rfl, hbc⟩
      rw [HLAW.out, faultV_cells]
      have kc : Kt (fun _ => True) v5 wc := (Kt.drew v5).trans (Kt.below hbc)
      have hSc : wc.heap[l]? = some (.cells #[.int .i64 (f.1 : Int), .int .i64 0, .int .i64 (f.2 : Int)] 27) ∧ wc.heap[qb]? = some (.cells #[.int .i64 (F.1 : Int), .int .i64 0, .int .i64 (F.2 : Int)] 27) := ⟨kc _ _ _ HLb.out trivial, kc _ _ _ HQb.out trivial⟩
      have HPc := Lib.hid (kc _ _ _ HPb.out trivial)
      have HQc := Lib.hid hSc.2
      have HOc := Lib.hid (kc.own trivial HOb.out)
      have HBc := Lib.hid (HBb.out.trans ((drew_below _ _).trans (hbc.mono HBb.out.size)))
      clear hS kc hbc
      refine hK' _ _ hSc ?_
      clear hK' K'
      refine wpAnyH_tk 15 (some 143) (.bool false) rfl rfl (by kernel_rfl) (fun _ _ _ h => h) (by assumption) (Or.inl ⟨by kernel_rfl, fun z hx => ?_⟩) ?_
      · obtain ⟨hxa, hxb⟩ := hx
        obtain ⟨l0, l1, l2, lf0, lf1, lf2⟩ := row3 hxa
        obtain ⟨q0, q1, q2, qf0, qf1, qf2⟩ := row3 hxb
        clear hxa hxb
        go_simp
        try rfl
      refine wpAnyH_tk 16 (some 144) (.bool false) rfl rfl (by kernel_rfl) (fun _ _ _ h => h) (by assumption) (Or.inl ⟨by kernel_rfl, fun z hx => ?_⟩) ?_
      · obtain ⟨hxa, hxb⟩ := hx
        obtain ⟨l0, l1, l2, lf0, lf1, lf2⟩ := row3 hxa
        obtain ⟨q0, q1, q2, qf0, qf1, qf2⟩ := row3 hxb
        clear hxa hxb
        go_simp
        try rfl
      refine wpAnyH_done (by kernel_rfl) ?_ _
      go_simp
      obtain ⟨q0, q1, q2, qf0, qf1, qf2⟩ := row3 HQc.out
      obtain ⟨p0, p1, pf0, pf1⟩ := row2c HPc.out
      clear hSc hne
      go_wp2
      go_ret
      exact ⟨rfl, HBc.out⟩
    | ok x =>
      obtain ⟨sl, he, hc⟩ := he
      subst he
      rw [faultV_cells]
      have HRD := Lib.hid (Gr.fact_free (f := f) (Gr.fact_rd hres.symm HSH.out.1 HSH.out.2))
      have HFU := Lib.hid (Gr.zero_ok (Gr.fact_full hres.symm))
      have hfl : (Gr.flatAtom x).length ≤ 70000 := by
        have := (Gr.fact_rd hres.symm HSH.out.1 HSH.out.2).at.1
        rw [List.length_append] at this
        omega
      have hxn : x.args.length ≤ 70000 := Nat.le_trans (args_len x) hfl
      obtain ⟨sa, sc, rfl⟩ : ∃ sa sc, sl = .slice sa x.args.length sc := by
        rcases Joins.ownsRow_forms hc with ⟨h5, h6⟩ | ⟨g, cap, h5⟩
        · exact ⟨none, 0, by rw [h5]; rw [h6]⟩
        · exact ⟨_, cap, h5⟩
      obtain ⟨ln, hln⟩ : ∃ ln, ln = x.args.length := ⟨_, rfl⟩
      rw [← hln] at hc ⊢
      have HLN := Lib.hid hln
      have hlnn : ln ≤ 70000 := by rw [hln]; exact hxn
      have HCa := Lib.hid hc
      have HLAW : Hid (Gr.J f false (beginN 3) 0 0 0 ts = (0, 0)) := Lib.hid hlaw
      clear hres hlaw hc hln
      go_upto_region 18 with fail
      try simp only [show (((0 : Nat) : Int)) = 0 from rfl]
      obtain ⟨v5, hv5⟩ : ∃ v5, v5 = (wa.alloc (.cells #[.string ⟨x.pred.toArray⟩, .slice sa ln sc] 46)).alloc (.cells #[.int .i64 0, .int .i64 0, .int .i64 0] 27) := ⟨_, rfl⟩
      rw [← hv5]
      have k5 : Kt (fun _ => True) wa v5 := by rw [hv5]; exact (Kt.alloc wa _).trans (Kt.alloc _ _)
      have HLb := Lib.hid (k5 _ _ _ HLa.out trivial)
      have HOb := Lib.hid (k5.own trivial HOa.out)
      have HCb := Lib.hid (k5.own trivial HCa.out)
      have HPb : Hid (v5.heap[wa.heap.size]? = some (.cells #[.string ⟨x.pred.toArray⟩, .slice sa ln sc] 46)) := Lib.hid (by rw [hv5]; exact (two_heap _ _ rfl).1)
      have HQb : Hid (v5.heap[wa.heap.size + 1]? = some (.cells #[.int .i64 0, .int .i64 0, .int .i64 0] 27)) := Lib.hid (by rw [hv5]; exact (two_heap _ _ rfl).2)
      have HBb : Hid (Below w.heap.size w v5) := Lib.hid (by rw [hv5]; exact (HBa.out.alloc HBa.out.size _).alloc (by have := HBa.out.size; simp; omega) _)
      obtain ⟨pb, hpb⟩ : ∃ pb, pb = wa.heap.size := ⟨_, rfl⟩
      obtain ⟨qb, hqb⟩ : ∃ qb, qb = wa.heap.size + 1 := ⟨_, rfl⟩
      rw [← hqb] at HQb ⊢
      rw [← hpb] at HPb ⊢
      clear hv5 k5 hpb hqb
      have hne := fault_ne 0 0
      have hnot : ∀ (x : Bool) (w : World), (Op.unary .not (.bool x)).run Tryz.prog w = .ok (.bool (!x)) w := fun _ _ => rfl
      refine wp_region_H (fun z => z.heap[l]? = some (.cells #[.int .i64 (f.1 : Int), .int .i64 0, .int .i64 (f.2 : Int)] 27) ∧ z.heap[qb]? = some (.cells #[.int .i64 0, .int .i64 0, .int .i64 0] 27)) (by kernel_rfl) ?_
      have hS : v5.drew.heap[l]? = some (.cells #[.int .i64 (f.1 : Int), .int .i64 0, .int .i64 (f.2 : Int)] 27) ∧ v5.drew.heap[qb]? = some (.cells #[.int .i64 0, .int .i64 0, .int .i64 0] 27) := ⟨HLb.out, HQb.out⟩
      refine wpAnyH_tk 0 (some 128) (.bool true) rfl rfl (by kernel_rfl) (fun _ _ _ h => h) (by assumption) (Or.inl ⟨by kernel_rfl, fun z hx => ?_⟩) ?_
      · obtain ⟨hxa, hxb⟩ := hx
        obtain ⟨l0, l1, l2, lf0, lf1, lf2⟩ := row3 hxa
        obtain ⟨q0, q1, q2, qf0, qf1, qf2⟩ := row3 hxb
        clear hxa hxb
        go_simp
        try rfl
      refine wpAnyH_tk 1 (some 129) (.bool false) rfl rfl (by kernel_rfl) (fun _ _ _ h => h) (by assumption) (Or.inl ⟨by kernel_rfl, fun z hx => ?_⟩) ?_
      · obtain ⟨hxa, hxb⟩ := hx
        obtain ⟨l0, l1, l2, lf0, lf1, lf2⟩ := row3 hxa
        obtain ⟨q0, q1, q2, qf0, qf1, qf2⟩ := row3 hxb
        clear hxa hxb
        go_simp
        try rfl
      refine wpAnyH_tk 2 (some 130) (.bool false) rfl rfl (by kernel_rfl) (fun _ _ _ h => h) (by assumption) (Or.inl ⟨by kernel_rfl, fun z hx => ?_⟩) ?_
      · obtain ⟨hxa, hxb⟩ := hx
        obtain ⟨l0, l1, l2, lf0, lf1, lf2⟩ := row3 hxa
        obtain ⟨q0, q1, q2, qf0, qf1, qf2⟩ := row3 hxb
        clear hxa hxb
        go_simp
        try rfl
      refine wpAnyH_tk 3 (some 131) (.bool true) rfl rfl (by kernel_rfl) (fun _ _ _ h => h) (by assumption) (Or.inl ⟨by kernel_rfl, fun z hx => ?_⟩) ?_
      · obtain ⟨hxa, hxb⟩ := hx
        obtain ⟨l0, l1, l2, lf0, lf1, lf2⟩ := row3 hxa
        obtain ⟨q0, q1, q2, qf0, qf1, qf2⟩ := row3 hxb
        clear hxa hxb
        go_simp
        try rfl
      refine wpAnyH_tk 4 (some 132) (.bool false) rfl rfl (by kernel_rfl) (fun _ _ _ h => h) (by assumption) (Or.inl ⟨by kernel_rfl, fun z hx => ?_⟩) ?_
      · obtain ⟨hxa, hxb⟩ := hx
        obtain ⟨l0, l1, l2, lf0, lf1, lf2⟩ := row3 hxa
        obtain ⟨q0, q1, q2, qf0, qf1, qf2⟩ := row3 hxb
        clear hxa hxb
        go_simp
        try rfl
      refine wpAnyH_tk 5 (some 133) (.bool false) rfl rfl (by kernel_rfl) (fun _ _ _ h => h) (by assumption) (Or.inl ⟨by kernel_rfl, fun z hx => ?_⟩) ?_
      · obtain ⟨hxa, hxb⟩ := hx
        obtain ⟨l0, l1, l2, lf0, lf1, lf2⟩ := row3 hxa
        obtain ⟨q0, q1, q2, qf0, qf1, qf2⟩ := row3 hxb
        clear hxa hxb
        go_simp
        try rfl
      refine wpAnyH_tk 6 (some 134) (.bool false) rfl rfl (by kernel_rfl) (fun _ _ _ h => h) (by assumption) (Or.inl ⟨by kernel_rfl, fun z hx => ?_⟩) ?_
      · obtain ⟨hxa, hxb⟩ := hx
        obtain ⟨l0, l1, l2, lf0, lf1, lf2⟩ := row3 hxa
        obtain ⟨q0, q1, q2, qf0, qf1, qf2⟩ := row3 hxb
        clear hxa hxb
        go_simp
        try rfl
      refine wpAnyH_tk 7 (some 135) (.bool true) rfl rfl (by kernel_rfl) (fun _ _ _ h => h) (by assumption) (Or.inl ⟨by kernel_rfl, fun z hx => ?_⟩) ?_
      · obtain ⟨hxa, hxb⟩ := hx
        obtain ⟨l0, l1, l2, lf0, lf1, lf2⟩ := row3 hxa
        obtain ⟨q0, q1, q2, qf0, qf1, qf2⟩ := row3 hxb
        clear hxa hxb
        go_simp
        try rfl
      refine wpAnyH_tk 8 (some 136) (.bool false) rfl rfl (by kernel_rfl) (fun _ _ _ h => h) (by assumption) (Or.inl ⟨by kernel_rfl, fun z hx => ?_⟩) ?_
      · obtain ⟨hxa, hxb⟩ := hx
        obtain ⟨l0, l1, l2, lf0, lf1, lf2⟩ := row3 hxa
        obtain ⟨q0, q1, q2, qf0, qf1, qf2⟩ := row3 hxb
        clear hxa hxb
        go_simp
        try rfl
      refine wpAnyH_tk 9 (some 137) (.bool false) rfl rfl (by kernel_rfl) (fun _ _ _ h => h) (by assumption) (Or.inl ⟨by kernel_rfl, fun z hx => ?_⟩) ?_
      · obtain ⟨hxa, hxb⟩ := hx
        obtain ⟨l0, l1, l2, lf0, lf1, lf2⟩ := row3 hxa
        obtain ⟨q0, q1, q2, qf0, qf1, qf2⟩ := row3 hxb
        clear hxa hxb
        go_simp
        try rfl
      refine wpAnyH_tk 10 (some 138) (.bool false) rfl rfl (by kernel_rfl) (fun _ _ _ h => h) (by assumption) (Or.inl ⟨by kernel_rfl, fun z hx => ?_⟩) ?_
      · obtain ⟨hxa, hxb⟩ := hx
        obtain ⟨l0, l1, l2, lf0, lf1, lf2⟩ := row3 hxa
        obtain ⟨q0, q1, q2, qf0, qf1, qf2⟩ := row3 hxb
        clear hxa hxb
        go_simp
        try rfl
      refine wpAnyH_tk 11 (some 139) (.agg #[.int .i64 0, .int .i64 0, .int .i64 0]) rfl rfl (by kernel_rfl) (fun _ _ _ h => h) (by assumption) (Or.inl ⟨by kernel_rfl, fun z hx => ?_⟩) ?_
      · obtain ⟨hxa, hxb⟩ := hx
        obtain ⟨l0, l1, l2, lf0, lf1, lf2⟩ := row3 hxa
        obtain ⟨q0, q1, q2, qf0, qf1, qf2⟩ := row3 hxb
        clear hxa hxb
        go_simp
        try rfl
      refine wpAnyH_tk 12 (some 140) (.slice va n vc) rfl rfl (by kernel_rfl) (fun _ _ _ h => h) (by assumption) (Or.inl ⟨by kernel_rfl, fun z hx => ?_⟩) ?_
      · obtain ⟨hxa, hxb⟩ := hx
        obtain ⟨l0, l1, l2, lf0, lf1, lf2⟩ := row3 hxa
        obtain ⟨q0, q1, q2, qf0, qf1, qf2⟩ := row3 hxb
        clear hxa hxb
        go_simp
        try rfl
      refine wpAnyH_tk 13 (some 141) (.agg #[.int .i64 (f.1 : Int), .int .i64 0, .int .i64 (f.2 : Int)]) rfl rfl (by kernel_rfl) (fun _ _ _ h => h) (by assumption) (Or.inl ⟨by kernel_rfl, fun z hx => ?_⟩) ?_
      · obtain ⟨hxa, hxb⟩ := hx
        obtain ⟨l0, l1, l2, lf0, lf1, lf2⟩ := row3 hxa
        obtain ⟨q0, q1, q2, qf0, qf1, qf2⟩ := row3 hxb
        clear hxa hxb
        go_simp
        try rfl
      refine wpAnyH_one 14 rfl (by kernel_rfl) (fun K' hK' => ?_)
      rw [if_pos (by kernel_rfl)]
      go_simp
      go_at_call 12
      refine (judged_any ts f _ _ 3 false v5.drew HOb.out rfl hts).mono ?_
      rintro e wc ⟨rfl, hbc⟩
      rw [HLAW.out, faultV_cells]
      have kc : Kt (fun _ => True) v5 wc := (Kt.drew v5).trans (Kt.below hbc)
      have hSc : wc.heap[l]? = some (.cells #[.int .i64 (f.1 : Int), .int .i64 0, .int .i64 (f.2 : Int)] 27) ∧ wc.heap[qb]? = some (.cells #[.int .i64 0, .int .i64 0, .int .i64 0] 27) := ⟨kc _ _ _ HLb.out trivial, kc _ _ _ HQb.out trivial⟩
      have HPc := Lib.hid (kc _ _ _ HPb.out trivial)
      have HQc := Lib.hid hSc.2
      have HOc := Lib.hid (kc.own trivial HOb.out)
      have HCc := Lib.hid (kc.own trivial HCb.out)
      have HBc := Lib.hid (HBb.out.trans ((drew_below _ _).trans (hbc.mono HBb.out.size)))
      clear hS kc hbc
      try simp only [show (((0 : Nat) : Int)) = 0 from rfl]
      refine hK' _ _ hSc ?_
      clear hK' K'
      refine wpAnyH_tk 15 (some 143) (.bool false) rfl rfl (by kernel_rfl) (fun _ _ _ h => h) (by assumption) (Or.inl ⟨by kernel_rfl, fun z hx => ?_⟩) ?_
      · obtain ⟨hxa, hxb⟩ := hx
        obtain ⟨l0, l1, l2, lf0, lf1, lf2⟩ := row3 hxa
        obtain ⟨q0, q1, q2, qf0, qf1, qf2⟩ := row3 hxb
        clear hxa hxb
        go_simp
        try rfl
      refine wpAnyH_tk 16 (some 144) (.bool false) rfl rfl (by kernel_rfl) (fun _ _ _ h => h) (by assumption) (Or.inl ⟨by kernel_rfl, fun z hx => ?_⟩) ?_
      · obtain ⟨hxa, hxb⟩ := hx
        obtain ⟨l0, l1, l2, lf0, lf1, lf2⟩ := row3 hxa
        obtain ⟨q0, q1, q2, qf0, qf1, qf2⟩ := row3 hxb
        clear hxa hxb
        go_simp
        try rfl
      refine wpAnyH_done (by kernel_rfl) ?_ _
      go_simp
      obtain ⟨q0, q1, q2, qf0, qf1, qf2⟩ := row3 HQc.out
      obtain ⟨p0, p1, pf0, pf1⟩ := row2c HPc.out
      clear hSc hne
      go_upto_region 22 with fail
      go_upto_region 23 with fail
      obtain ⟨v6, hv6⟩ : ∃ v6, v6 = wc.alloc (.cells #[.string ⟨x.pred.toArray⟩, .slice none 0 0, .int .i64 0] 32) := ⟨_, rfl⟩
      rw [← hv6]
      have k6 : Kt (fun _ => True) wc v6 := by rw [hv6]; exact Kt.alloc wc _
      have HCP0 : Hid (CpIn wc wc.heap.size ⟨x.pred, (x.args.take 0).map Gr.Trm.zero, 0⟩ v6) := Lib.hid ⟨by rw [hv6]; exact up_alloc _ _, _, by rw [hv6]; exact heap_alloc_new _ _, ⟨rfl, .inl ⟨rfl, rfl⟩⟩⟩
      have hp6 := k6 _ _ _ HPc.out trivial
      clear q0 q1 q2 qf0 qf1 qf2 p0 p1 pf0 pf1
      obtain ⟨p0, p1, pf0, pf1⟩ := row2c hp6
      obtain ⟨cb, hcb⟩ : ∃ cb, cb = wc.heap.size := ⟨_, rfl⟩
      rw [← hcb] at HCP0 ⊢
      have HCBZ := Lib.hid hcb
      clear hv6 k6 hp6 hcb
      go_wp2
      clear p0 p1 pf0 pf1
      go_loopw [163] (fun k wr => ∃ i : Nat, k = .int .i64 (i : Int) ∧ i ≤ ln ∧ Hid (CpIn wc cb ⟨x.pred, (x.args.take i).map Gr.Trm.zero, 0⟩ wr)) (fun k _ => ln - (intOf k).toNat)
      case atStart => exact ⟨0, rfl, Nat.zero_le _, HCP0⟩
      case round =>
        obtain ⟨i, rfl, hi, HCP⟩ := hrel
        clear HCP0
        by_cases h1 : i < ln
        · have iI : (i : Int) < (ln : Int) := by omega
          have i0 : (0 : Int) ≤ (i : Int) := by omega
          have hlx := HLN.out
          have hwi : IntKind.i64.wrap ((i : Int) + 1) = (i : Int) + 1 := by rw [IntKind.wrap_i64]; omega
          have HI := Lib.hid (show i < x.args.length by omega)
          have hcc := (Kt.below (T := fun _ => True) HCP.out.bel).own trivial HCc.out
          obtain ⟨gc, rfl⟩ : ∃ g, sa = some ⟨g, 0, none⟩ := by
            obtain ⟨g, cap, h5⟩ := Joins.ownsRow_form hcc (by omega)
            injection h5 with h6 _ _
            exact ⟨g, h6⟩
          rw [hlx] at hcc
          obtain ⟨k0, k1, k2⟩ := cst_cells hcc HI.out
          obtain ⟨y, hy⟩ : ∃ y, y = x.args[i]'HI.out := ⟨_, rfl⟩
          rw [← hy] at k0 k1 k2
          have HY : Hid ((x.args.take (i + 1)).map Gr.Trm.zero = (x.args.take i).map Gr.Trm.zero ++ [y.zero]) := Lib.hid (by rw [hy]; have h9 := congrArg (List.map Gr.Trm.zero) (Gr.take_snoc HI.out); rw [List.map_append] at h9; exact h9)
          obtain ⟨sl, hcw, how⟩ := HCP.out.blk
          simp only at hcw how
          rw [List.length_map, List.length_take, Nat.min_eq_left (Nat.le_of_lt HI.out)] at how
          obtain ⟨da, dc, rfl⟩ : ∃ da dc, sl = .slice da i dc := by
            rcases Joins.ownsRow_forms how with ⟨h5, h6⟩ | ⟨g, cap, h5⟩
            · exact ⟨none, 0, by rw [h5]; rw [h6]⟩
            · exact ⟨_, cap, h5⟩
          have HCW := Lib.hid hcw
          have HOW := Lib.hid how
          clear hy hcc hcw how hlx
          go_upto_region 26 with fail
          obtain ⟨w6', hw6⟩ : ∃ w6, w6 = wr.alloc (.cells #[.int .i64 (y.kind : Int), .int .i64 y.int, .string ⟨y.text.toArray⟩] 57) := ⟨_, rfl⟩
          rw [← hw6]
          have z1 : w6'.heap[wr.heap.size]? = some (.cells #[.int .i64 (y.kind : Int), .int .i64 y.int, .string ⟨y.text.toArray⟩] 57) := by rw [hw6]; exact heap_alloc_new _ _
          have k6 : Kt (fun _ => True) wr w6' := by rw [hw6]; exact Kt.alloc _ _
          have hc6 := k6 _ _ _ HCW.out trivial
          have HC6 := Lib.hid hc6
          have HO6' := Lib.hid (k6.own trivial HOW.out)
          have HF6 : Hid (Below wc.heap.size wc w6') := Lib.hid (by rw [hw6]; exact HCP.out.bel.alloc HCP.out.bel.size _)
          clear hw6 k6 k0 k1 k2
          have k0 : w6'.cell? ⟨wr.heap.size, 0, none⟩ = some (.int .i64 (y.kind : Int)) := by simp only [World.cell?, z1]; rfl
          have k1 : w6'.cell? ⟨wr.heap.size, 1, none⟩ = some (.int .i64 y.int) := by simp only [World.cell?, z1]; rfl
          have k2 : w6'.cell? ⟨wr.heap.size, 2, none⟩ = some (.string ⟨y.text.toArray⟩) := by simp only [World.cell?, z1]; rfl
          obtain ⟨s0, s1, s2, g0, g1, g2⟩ := row32 hc6
          clear z1 hc6
          go_wp2_with (at_builtin; refine wpList_append_own _ rfl _ _ 30 rfl wc.heap.size 59 i59 (.agg #[.int .i64 0, .int .i64 0, .string noS, .int .i64 0]) 4 40 Tryz.underlying30 ci d0 d1 d2 rfl (by decide) (.slice da i dc) i (flatX ((x.args.take i).map Gr.Trm.zero)) rfl (HO6'.out.alloc _) ⟨w6'.heap.size, 0, none⟩ 1 1 (trmL y.zero) rfl rfl (World.news_of_block (cs := (trmL y.zero).toArray) (t := 59) (fr := (0, 0)) (heap_alloc_new w6' _)) (trmL_one y.zero) (by unfold maxLen; omega) (by omega) (by have := HF6.out.size; simp; omega) ?_; intro v8 w8' hown8 hgrow8 hnl8; have HP := cp_push (Nat.le_of_eq HCBZ.out.symm) HF6.out HC6.out HO6'.out hgrow8 hown8 HY.out (by rw [List.length_map, List.length_take]; have := HI.out; omega); have z0 := HP.out.1; have z1 := HP.out.2.1; obtain ⟨g8, c8, rfl⟩ := Joins.ownsRow_form hown8 (by omega))
          go_roundw
          case rel => exact ⟨i + 1, by go_num, by omega, Lib.hid (HP.out.2.2.2.2 _ rfl)⟩
          case measure => simp only [intOf]; omega
        · have hie : i = ln := by omega
          subst hie
          have hnl : ¬ (i : Int) < (i : Int) := by omega
          have hnd : decide ((i : Int) < (i : Int)) = false := decide_eq_false hnl
          have hcp := HCP.out
          rw [List.take_of_length_le (by rw [HLN.out]; exact Nat.le_refl _)] at hcp
          obtain ⟨hbel, sl, hcw, how⟩ := hcp
          simp only at hcw how
          obtain ⟨da, dc, rfl⟩ : ∃ da dc, sl = .slice da i dc := by
            have hl : (x.args.map Gr.Trm.zero).length = i := by rw [List.length_map, HLN.out]
            rw [hl] at how
            rcases Joins.ownsRow_forms how with ⟨h5, h6⟩ | ⟨g, cap, h5⟩
            · exact ⟨none, 0, by rw [h5]; rw [h6]⟩
            · exact ⟨_, cap, h5⟩
          obtain ⟨s0, s1, s2, g0, g1, g2⟩ := row32 hcw
          have HOW : Hid (wr.ownsRow wc.heap.size 59 4 (.slice da i dc) (Gr.zeroAtm x).args.length (flatX (Gr.zeroAtm x).args)) := Lib.hid how
          have HBR := Lib.hid hbel
          have hzl : (Gr.zeroAtm x).args.length ≤ 70000 := by simp only [Gr.zeroAtm, List.length_map]; exact hxn
          have hzf : (Gr.flatAtom (Gr.zeroAtm x)).length ≤ 70000 := by
            have := congrArg List.length (Gr.bare_atom x)
            simp only [List.length_map] at this
            omega
          clear hcw how hbel hi h1
          go_wp2_with fail
          refine (flatAtom_any (Gr.zeroAtm x) (.slice da i dc) _ wr HFU.out HOW.out hzl).mono ?_
          rintro e wd ⟨ud, rfl, hod, hbd⟩
          have hapos : 0 < (Gr.flatAtom (Gr.zeroAtm x)).length := by simp [Gr.flatAtom]
          obtain ⟨ag, ac, rfl⟩ := Joins.ownsRow_form hod hapos
          obtain ⟨es, hes⟩ : ∃ es, es = Gr.flatAtom (Gr.zeroAtm x) := ⟨_, rfl⟩
          rw [← hes] at hod hzf hapos ⊢
          have HES := Lib.hid hes
          have HOD := Lib.hid (OutV.mono hod HBR.out.size)
          have HBD := Lib.hid (HBR.out.trans (hbd.mono HBR.out.size))
          clear hod hbd hes s0 s1 s2 g0 g1 g2
          go_wp2_with fail
          refine (mark_any 0 _).mono ?_
          rintro e we ⟨rfl, hbe⟩
          simp only [markV]
          have HOE := Lib.hid (HOD.out.kt (Kt.below (T := fun _ => True) hbe) trivial)
          have HBE := Lib.hid (HBD.out.trans (hbe.mono HBD.out.size))
          clear hbe
          go_upto_region 29 with (at_builtin; refine wpList_append_own _ rfl _ _ 36 rfl wc.heap.size 62 i62 (.agg #[.int .i64 0, .string noS, .int .i64 0, .int .i64 0, .int .i64 0, .int .i64 0]) 6 56 Tryz.underlying36 bi b0 b1 b2 rfl (by decide) (.slice (some ⟨ag, 0, none⟩) es.length ac) es.length (List.flatMap exV es) rfl (World.ownsRow.alloc HOE.out _) ⟨we.heap.size, 0, none⟩ 1 1 (exV (Gr.mkE 0)) rfl rfl (World.news_of_block (cs := (exV (Gr.mkE 0)).toArray) (t := 62) (fr := (0, 0)) (heap_alloc_new we _)) (evV_one _) (by unfold maxLen; omega) (by omega) (by have := HBE.out.size; simp; omega) ?_; intro v8 w8 hown8 hgrow8 hnl8; have HO8 := Lib.hid (OutV.snoc (e := Gr.mkE 0) hown8); have HB8 := Lib.hid (grown_below (HBE.out.alloc HBE.out.size _) hgrow8 (World.ownsRow.alloc HOE.out _) (Nat.le_refl _)); have k8 : Kt (fun t => t ≠ 62) we w8 := (Kt.alloc we _).trans (Kt.grown hgrow8 (World.ownsRow.alloc HOE.out _) (by simp)); obtain ⟨g8, c8, rfl⟩ := Joins.ownsRow_form hown8 (by omega); clear hown8 hgrow8 hnl8)
          obtain ⟨evs, hevs⟩ : ∃ evs, evs = (es ++ [Gr.mkE 0]).map Gr.ev := ⟨_, rfl⟩
          have HEL : Hid (evs.length = es.length + 1) := Lib.hid (by rw [hevs]; simp)
          have HRE : Hid (Gr.RdV ts (evs.map Gr.Ev.free)) := Lib.hid (by rw [hevs, HES.out]; exact HRD.out)
          have HOF : Hid (w8.ownsRow wc.heap.size 62 6 (.slice (some ⟨g8, 0, none⟩) (es.length + 1) c8) evs.length ((((evs.take 0).map Gr.Ev.free) ++ evs.drop 0).flatMap evV)) := Lib.hid (by
            have := HO8.out.ev
            rw [← hevs] at this
            simpa using this)
          rw [← HEL.out] at HOF ⊢
          have hevl : evs.length ≤ 70001 := by have := HEL.out; omega
          obtain ⟨m, hm⟩ : ∃ m, m = evs.length := ⟨_, rfl⟩
          rw [← hm] at HOF hevl ⊢
          have HMM := Lib.hid hm
          clear hevs hm
          go_wp2
          go_loopw [187] (fun k wr => ∃ i : Nat, k = .int .i64 (i : Int) ∧ i ≤ m ∧ Hid (Below wc.heap.size wc wr) ∧ Hid (wr.ownsRow wc.heap.size 62 6 (.slice (some ⟨g8, 0, none⟩) m c8) m ((((evs.take i).map Gr.Ev.free) ++ evs.drop i).flatMap evV))) (fun k _ => m - (intOf k).toNat)
          case atStart => exact ⟨0, rfl, Nat.zero_le _, HB8, HOF⟩
          case round =>
            obtain ⟨j, rfl, hj, HBJ, HOJ⟩ := hrel
            clear HOF HB8
            by_cases h1 : j < m
            · have iI : (j : Int) < (m : Int) := by omega
              have i0 : (0 : Int) ≤ (j : Int) := by omega
              have hwi : IntKind.i64.wrap ((j : Int) + 1) = (j : Int) + 1 := by rw [IntKind.wrap_i64]; omega
              have hje : j < evs.length := by have := HMM.out; omega
              have hfl2 := free_len evs j
              have how : wr.ownsRow wc.heap.size 62 6 (.slice (some ⟨g8, 0, none⟩) m c8) (((evs.take j).map Gr.Ev.free) ++ evs.drop j).length ((((evs.take j).map Gr.Ev.free) ++ evs.drop j).flatMap evV) := by rw [hfl2, ← HMM.out]; exact HOJ.out
              obtain ⟨fv, e5⟩ : ∃ fv : Int, wr.cell? ⟨g8, j * 6 + 5, none⟩ = some (.int .i64 fv) := ⟨_, (ev_cells how (i := j) (by omega)).2.2.2.2.2⟩
              have f5 := World.ownsRow.frozenAt HOJ.out (j * 6 + 5)
              have hst := (World.ownsRow.stored HOJ.out (j * 6 + 5) (.int .i64 (-1))).1
              rw [set_free evs j hje] at hst
              have HST := Lib.hid hst
              have HGB : Hid (wc.heap.size ≤ g8) := Lib.hid ((World.ownsRow.lt HOJ.out g8 rfl).1)
              clear how hst hfl2 hje
              go_wp2
              go_roundw
              case rel => exact ⟨j + 1, by go_num, by omega, Lib.hid (HBJ.out.setCell (p := ⟨g8, j * 6 + 5, none⟩) HGB.out _), HST⟩
              case measure => simp only [intOf]; omega
            · have hje : j = m := by omega
              subst hje
              have hnl : ¬ (j : Int) < (j : Int) := by omega
              have hnd : decide ((j : Int) < (j : Int)) = false := decide_eq_false hnl
              have how := HOJ.out
              rw [List.take_of_length_le (by rw [HMM.out]; exact Nat.le_refl _), List.drop_eq_nil_of_le (by rw [HMM.out]; exact Nat.le_refl _), List.append_nil] at how
              have HFIN : Hid (wr.ownsRow wc.heap.size 62 6 (.slice (some ⟨g8, 0, none⟩) j c8) (evs.map Gr.Ev.free).length ((evs.map Gr.Ev.free).flatMap evV)) := Lib.hid (by rw [List.length_map, ← HMM.out]; exact how)
              have HTS := Lib.hid ((Kt.below (T := fun _ => True) HBJ.out).own trivial HOc.out)
              clear how
              go_wp2_with fail
              refine (readsAs_any ts (evs.map Gr.Ev.free) _ _ _ _ wr HTS.out HFIN.out HRE.out hts).mono ?_
              rintro e wf ⟨rfl, hbf⟩
              have HBF := Lib.hid (HBc.out.trans ((HBJ.out.trans (hbf.mono HBJ.out.size)).mono HBc.out.size))
              clear hbf
              go_wp2
              go_ret
              exact ⟨rfl, HBF.out⟩
  · have hgt : decide ((s.size : Int) > 65536) = true := decide_eq_true (by omega)
    refine (scanned_long s _ hs).mono ?_
    rintro e w3 ⟨rfl, hb3⟩
    rw [faultV_cells]
    have HB3 := Lib.hid (HB2.out.trans (hb3.mono HB2.out.size))
    clear hb3
    go_upto_region 5 with fail
    try simp only [show (((1 : Nat) : Int)) = 1 from rfl, show (((0 : Nat) : Int)) = 0 from rfl]
    obtain ⟨v1, hv1⟩ : ∃ v1, v1 = w3.alloc (.cells #[.int .i64 1, .int .i64 0, .int .i64 0] 27) := ⟨_, rfl⟩
    rw [← hv1]
    have HBV : Hid (Below w.heap.size w v1) := Lib.hid (by rw [hv1]; exact HB3.out.alloc HB3.out.size _)
    clear hv1
    go_wp2_with fail
    refine (parse_prog_long s _ hs).mono ?_
    rintro e w4 ⟨rfl, hb4⟩
    rw [faultV_cells]
    have HB4 := Lib.hid (HBV.out.trans (hb4.mono HBV.out.size))
    clear hb4
    go_upto_region 9 with fail
    try simp only [show (((1 : Nat) : Int)) = 1 from rfl, show (((0 : Nat) : Int)) = 0 from rfl]
    obtain ⟨v2, hv2⟩ : ∃ v2, v2 = (w4.alloc (.cells #[.slice none 0 0] 24)).alloc (.cells #[.int .i64 1, .int .i64 0, .int .i64 0] 27) := ⟨_, rfl⟩
    rw [← hv2]
    have HF2 : Hid (v2.heap[w4.heap.size + 1]? = some (.cells #[.int .i64 1, .int .i64 0, .int .i64 0] 27)) := Lib.hid (by rw [hv2]; exact (two_heap _ _ rfl).2)
    have HB5 : Hid (Below w.heap.size w v2) := Lib.hid (by rw [hv2]; exact (HB4.out.alloc HB4.out.size _).alloc (by have := HB4.out.size; simp; omega) _)
    obtain ⟨f1, hf1⟩ : ∃ f1, f1 = w4.heap.size + 1 := ⟨_, rfl⟩
    rw [← hf1] at HF2 ⊢
    clear hv2 hf1
    go_wp2_with fail
    refine (parse_facts_long s _ hs).mono ?_
    rintro e w6 ⟨rfl, hb6⟩
    rw [faultV_cells]
    have HB6 := Lib.hid (HB5.out.trans (hb6.mono HB5.out.size))
    have HF6 := Lib.hid (Kt.below (T := fun _ => True) hb6 _ _ _ HF2.out trivial)
    clear hb6
    go_upto_region 10 with fail
    try simp only [show (((1 : Nat) : Int)) = 1 from rfl, show (((0 : Nat) : Int)) = 0 from rfl]
    obtain ⟨v3, hv3⟩ : ∃ v3, v3 = w6.alloc (.cells #[.int .i64 1, .int .i64 0, .int .i64 0] 27) := ⟨_, rfl⟩
    rw [← hv3]
    have k3 : Kt (fun _ => True) w6 v3 := by rw [hv3]; exact Kt.alloc w6 _
    have HF3 := Lib.hid (k3 _ _ _ HF6.out trivial)
    have HG3 : Hid (v3.heap[w6.heap.size]? = some (.cells #[.int .i64 1, .int .i64 0, .int .i64 0] 27)) := Lib.hid (by rw [hv3]; exact heap_alloc_new _ _)
    have HB7 : Hid (Below w.heap.size w v3) := Lib.hid (by rw [hv3]; exact HB6.out.alloc HB6.out.size _)
    obtain ⟨f2, hf2⟩ : ∃ f2, f2 = w6.heap.size := ⟨_, rfl⟩
    rw [← hf2] at HG3 ⊢
    clear hv3 k3 hf2
    go_wp2_with fail
    refine (parse_query_long s _ hs).mono ?_
    rintro e w8 ⟨rfl, hb8⟩
    rw [faultV_cells]
    have k8 : Kt (fun _ => True) v3 w8 := Kt.below hb8
    have HB8 := Lib.hid (HB7.out.trans (hb8.mono HB7.out.size))
    have HF8 := Lib.hid (k8 _ _ _ HF3.out trivial)
    have HG8 := Lib.hid (k8 _ _ _ HG3.out trivial)
    clear hb8 k8
    go_upto_region 11 with fail
    try simp only [show (((1 : Nat) : Int)) = 1 from rfl, show (((0 : Nat) : Int)) = 0 from rfl]
    obtain ⟨v4, hv4⟩ : ∃ v4, v4 = w8.alloc (.cells #[.int .i64 1, .int .i64 0, .int .i64 0] 27) := ⟨_, rfl⟩
    rw [← hv4]
    have k4 : Kt (fun _ => True) w8 v4 := by rw [hv4]; exact Kt.alloc w8 _
    have HF4 := Lib.hid (k4 _ _ _ HF8.out trivial)
    have HG4 := Lib.hid (k4 _ _ _ HG8.out trivial)
    have HH4 : Hid (v4.heap[w8.heap.size]? = some (.cells #[.int .i64 1, .int .i64 0, .int .i64 0] 27)) := Lib.hid (by rw [hv4]; exact heap_alloc_new _ _)
    have HB9 : Hid (Below w.heap.size w v4) := Lib.hid (by rw [hv4]; exact HB8.out.alloc HB8.out.size _)
    obtain ⟨f3, hf3⟩ : ∃ f3, f3 = w8.heap.size := ⟨_, rfl⟩
    rw [← hf3] at HH4 ⊢
    clear hv4 k4 hf3
    go_wp2_with fail
    refine (parse_fact_long s _ hs).mono ?_
    rintro e wa ⟨rfl, hba⟩
    rw [faultV_cells]
    have ka : Kt (fun _ => True) v4 wa := Kt.below hba
    have HBa := Lib.hid (HB9.out.trans (hba.mono HB9.out.size))
    have HFa := Lib.hid (ka _ _ _ HF4.out trivial)
    have HGa := Lib.hid (ka _ _ _ HG4.out trivial)
    have HHa := Lib.hid (ka _ _ _ HH4.out trivial)
    clear hba ka
    go_upto_region 13 with fail
    try simp only [show (((1 : Nat) : Int)) = 1 from rfl, show (((0 : Nat) : Int)) = 0 from rfl]
    obtain ⟨v5, hv5⟩ : ∃ v5, v5 = ((wa.alloc (.cells #[.string { data := #[] }, .slice none 0 0] 46)).alloc (.cells #[.int .i64 1, .int .i64 0, .int .i64 0] 27)).alloc (.cells #[.int .i64 1, .int .i64 0, .int .i64 0] 27) := ⟨_, rfl⟩
    rw [← hv5]
    have k5 : Kt (fun _ => True) wa v5 := by rw [hv5]; exact ((Kt.alloc wa _).trans (Kt.alloc _ _)).trans (Kt.alloc _ _)
    have q1 := k5 _ _ _ HFa.out trivial
    have q2 := k5 _ _ _ HGa.out trivial
    have q3 := k5 _ _ _ HHa.out trivial
    have q4 : v5.heap[wa.heap.size + 1]? = some (.cells #[.int .i64 1, .int .i64 0, .int .i64 0] 27) := by rw [hv5, Below.heap_alloc _ _ _ (by simp)]; exact (two_heap _ _ rfl).2
    have q5 : v5.heap[wa.heap.size + 2]? = some (.cells #[.int .i64 1, .int .i64 0, .int .i64 0] 27) := by
      rw [hv5]
      have := heap_alloc_new ((wa.alloc (.cells #[.string { data := #[] }, .slice none 0 0] 46)).alloc (.cells #[.int .i64 1, .int .i64 0, .int .i64 0] 27)) (.cells #[.int .i64 1, .int .i64 0, .int .i64 0] 27)
      simpa using this
    have HBZ : Hid (Below w.heap.size w v5) := Lib.hid (by rw [hv5]; exact ((HBa.out.alloc HBa.out.size _).alloc (by have := HBa.out.size; simp; omega) _).alloc (by have := HBa.out.size; simp; omega) _)
    obtain ⟨a0, a1, a2, _, _, _⟩ := row3 q1
    obtain ⟨b0', b1', b2', _, _, _⟩ := row3 q2
    obtain ⟨e0, e1, e2, _, _, _⟩ := row3 q3
    obtain ⟨g0, g1, g2, _, _, _⟩ := row3 q4
    obtain ⟨h0, h1, h2, _, _, _⟩ := row3 q5
    clear hv5 k5 q1 q2 q3 q4 q5
    go_wp2
    go_ret
    exact ⟨rfl, HBZ.out⟩
end Go.Proofs.YtncdjkdpoinfaaaGreatDoor
