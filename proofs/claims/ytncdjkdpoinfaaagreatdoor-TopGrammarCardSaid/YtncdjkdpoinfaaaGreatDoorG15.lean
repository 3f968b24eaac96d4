/-
  Texts of this seat, one behind the other: W36. Conditions: those that each of them states.
-/
import Derived.Test.YtncdjkdpoinfaaaGreatDoorG14
/-
  The walk of parse's literal. Conditions: the reader lies in memory.
-/
namespace Go.Proofs.YtncdjkdpoinfaaaGreatDoor
open Go.RowKit Go.Shelf Pl

set_option maxRecDepth 100000 in
set_option maxHeartbeats 6400000 in
theorem literal_any (X : Nat) (v : Value) (ts : List Tk) (a : Nat) (f : Gr.Flt) (w : World) (hR : Rdr w X v ts a f) :
    Calls Tryz.prog 49 #[.pointer (some ⟨X, 0, none⟩)] w (LitIs X v ts f w (Gr.litP f (ts.drop a))) := by
  have hf0 := fld0
  have hf3 := fld3
  have hX := hR.lt
  have hfew := hR.few
  obtain ⟨V, hV⟩ : ∃ V, V = Gr.litP f (ts.drop a) := ⟨_, rfl⟩
  rw [← hV]
  have HV0 := Lib.hid hV
  clear hV
  obtain ⟨w1, hw1⟩ : ∃ w1, w1 = w.alloc (.cells #[.int .i64 0, .string { data := #[] }, .slice none 0 0, .int .i64 0, .int .i64 0, .int .i64 0, .int .i64 0, .string { data := #[] }, .int .i64 0, .int .i64 0, .int .i64 0, .string { data := #[] }, .int .i64 0, .int .i64 0] 101) := ⟨_, rfl⟩
  have hR1 : Rdr w1 X v ts a f := by rw [hw1]; exact hR.alloc _
  have hB1 : Below w.heap.size w w1 := by rw [hw1]; exact up_alloc _ _
  have q1 : w1.heap[w.heap.size]? = some (.cells #[.int .i64 0, .string { data := #[] }, .slice none 0 0, .int .i64 0, .int .i64 0, .int .i64 0, .int .i64 0, .string { data := #[] }, .int .i64 0, .int .i64 0, .int .i64 0, .string { data := #[] }, .int .i64 0, .int .i64 0] 101) := by rw [hw1]; exact heap_alloc_new _ _
  have HZ1 : Hid (w1.heap.size = w.heap.size + 1) := Lib.hid (by rw [hw1]; simp)
  have HW1 := Lib.hid hw1
  have HB1 := Lib.hid hB1
  have HQ1 := Lib.hid q1
  clear hw1 hB1 q1
  go_enter Tryz.func49, Tryz.ntmps49
  go_upto_region 1 with fail
  rw [← HW1.out]
  cases hd : ts.drop a with
  | nil =>
    have HV : Hid (V = .error f) := Lib.hid (by rw [HV0.out, hd]; rfl)
    go_wp2_with fail
    refine (peek_none X v ts a f _ hd hR1).mono ?_
    rintro e w2 ⟨rfl, hb⟩
    refine ⟨rfl, Bes.of (HB1.out.trans (hb.mono (by have := HZ1.out; omega))), ?_⟩
    rw [HV.out]; rfl
  | cons t r =>
    have HV : Hid (V = Gr.litP f (t :: r)) := Lib.hid (by rw [HV0.out, hd])
    have HD := Lib.hid hd
    go_wp2_with fail
    refine (peek_some X v ts a f _ t r hd hR1).mono ?_
    rintro e w2 ⟨rfl, hb⟩
    simp only [tkA]
    have hR2 := hR1.below hb
    have q2 : w2.heap[w.heap.size]? = some (.cells #[.int .i64 0, .string { data := #[] }, .slice none 0 0, .int .i64 0, .int .i64 0, .int .i64 0, .int .i64 0, .string { data := #[] }, .int .i64 0, .int .i64 0, .int .i64 0, .string { data := #[] }, .int .i64 0, .int .i64 0] 101) := by rw [hb.block _ (by have := HZ1.out; omega)]; exact HQ1.out
    have hB2 := HB1.out.trans (hb.mono (by have := HZ1.out; omega))
    go_upto_region 2 with fail
    obtain ⟨w3, hw3⟩ : ∃ w3, w3 = w2.alloc (.cells #[.int .i64 (t.kind : Int), .string { data := t.text.toArray }, .int .i64 t.int, .int .i64 (t.op : Int), .int .i64 (t.off : Int), .int .i64 (t.fin : Int)] 62) := ⟨_, rfl⟩
    rw [← hw3]
    have HR3 : Hid (Rdr w3 X v ts a f) := Lib.hid (by rw [hw3]; exact hR2.alloc _)
    have HZ2 := Lib.hid hb.size
    have HB3 : Hid (Below w.heap.size w w3) := Lib.hid (by rw [hw3]; exact hB2.alloc (by have := HZ1.out; have := HZ2.out; omega) _)
    have HQ3 : Hid (w3.heap[w.heap.size]? = some (.cells #[.int .i64 0, .string { data := #[] }, .slice none 0 0, .int .i64 0, .int .i64 0, .int .i64 0, .int .i64 0, .string { data := #[] }, .int .i64 0, .int .i64 0, .int .i64 0, .string { data := #[] }, .int .i64 0, .int .i64 0] 101)) := Lib.hid (by rw [hw3, Below.heap_alloc _ _ _ (by have := HZ1.out; have := HZ2.out; omega)]; exact q2)
    have t3 : w3.heap[w2.heap.size]? = some (.cells #[.int .i64 (t.kind : Int), .string { data := t.text.toArray }, .int .i64 t.int, .int .i64 (t.op : Int), .int .i64 (t.off : Int), .int .i64 (t.fin : Int)] 62) := by rw [hw3]; exact heap_alloc_new _ _
    obtain ⟨b, hb0⟩ : ∃ b, b = w2.heap.size := ⟨_, rfl⟩
    rw [← hb0] at t3 ⊢
    have HB0 : Hid (b = w2.heap.size ∧ w.heap.size < b) := Lib.hid ⟨hb0, by have := HZ1.out; have := HZ2.out; omega⟩
    have HT3 := Lib.hid t3
    obtain ⟨r0, r1, r2, r3, r4, r5, f0, f1, f2, f3, f4, f5⟩ := row6 t3
    obtain ⟨hlt, _, hd1⟩ := drop_at hd
    have HD1 := Lib.hid hd1
    clear hR2 q2 hB2 hw3 hb hR1 hb0 t3 hd hd1
    by_cases h10 : t.kind = 10
    · have e10 : ((t.kind : Int) == 10) = true := by simp; omega
      have HK := Lib.hid h10
      have hw : IntKind.i64.wrap ((a : Int) + 1) = ((a + 1 : Nat) : Int) := by rw [IntKind.wrap_i64]; omega
      obtain ⟨c0, c1, c2, c4, fz⟩ := HR3.out.cells
      clear h10
      go_upto_region 4 with fail
      obtain ⟨w4, hw4⟩ : ∃ w4, w4 = w3.setCell ⟨X, 1, none⟩ (.int .i64 ((a : Int) + 1)) := ⟨_, rfl⟩
      rw [← hw4]
      have HB4 : Hid (Bes X w w4) := Lib.hid (by rw [hw4]; exact (Bes.of HB3.out).set (p := ⟨X, 1, none⟩) (.inl rfl) _)
      have HR4 : Hid (Rdr w4 X v ts (a + 1) f) := Lib.hid (by rw [hw4]; exact HR3.out.set (q := a + 1) (by omega))
      have HQ4 : Hid (w4.heap[w.heap.size]? = some (.cells #[.int .i64 0, .string { data := #[] }, .slice none 0 0, .int .i64 0, .int .i64 0, .int .i64 0, .int .i64 0, .string { data := #[] }, .int .i64 0, .int .i64 0, .int .i64 0, .string { data := #[] }, .int .i64 0, .int .i64 0] 101)) := Lib.hid (by rw [hw4, Below.heap_setCell _ _ _ _ (by simp; omega)]; exact HQ3.out)
      have t4 : w4.heap[b]? = some (.cells #[.int .i64 (t.kind : Int), .string { data := t.text.toArray }, .int .i64 t.int, .int .i64 (t.op : Int), .int .i64 (t.off : Int), .int .i64 (t.fin : Int)] 62) := by rw [hw4, Below.heap_setCell _ _ _ _ (by have := HB0.out; simp; omega)]; exact HT3.out
      have HT4 := Lib.hid t4
      clear hw4 r0 r1 r2 r3 r4 r5 f0 f1 f2 f3 f4 f5 c0 c1 c2 c4 fz
      obtain ⟨r0, r1, r2, r3, r4, r5, f0, f1, f2, f3, f4, f5⟩ := row6 t4
      clear t4
      have hbd : Below w4.heap.size w4 w4.drew := drew_below _ _
      have HRd := Lib.hid (HR4.out.below hbd)
      have HBd := Lib.hid (HB4.out.trans (Bes.of hbd))
      have HQd : Hid (w4.drew.heap[w.heap.size]? = some (.cells #[.int .i64 0, .string { data := #[] }, .slice none 0 0, .int .i64 0, .int .i64 0, .int .i64 0, .int .i64 0, .string { data := #[] }, .int .i64 0, .int .i64 0, .int .i64 0, .string { data := #[] }, .int .i64 0, .int .i64 0] 101)) := Lib.hid HQ4.out
      have HTd : Hid (w4.drew.heap[b]? = some (.cells #[.int .i64 (t.kind : Int), .string { data := t.text.toArray }, .int .i64 t.int, .int .i64 (t.op : Int), .int .i64 (t.off : Int), .int .i64 (t.fin : Int)] 62)) := Lib.hid HT4.out
      clear hbd
      cases hres : Gr.atomP f true (ts.drop (a + 1)) with
      | error F =>
        have HE : Hid (V = .error F) := Lib.hid (by rw [HD1.out] at hres; rw [HV.out]; simp [Gr.litP, HK.out, hres])
        have HRES := Lib.hid hres
        clear hres
        refine wp_region_T (fun x => x.cell? ⟨b, 4, none⟩ = some (.int .i64 (t.off : Int))) 5 (by kernel_rfl) ?_
        have hS : w4.drew.cell? ⟨b, 4, none⟩ = some (.int .i64 (t.off : Int)) := r4
        refine wpAnyT_tk 0 _ ?_ rfl rfl (by kernel_rfl) (fun _ _ _ h => h) (by assumption) (Or.inl ⟨by rfl, fun x hx => ?_⟩) ?_
        rotate_left
        · have hx2 : x.cell? ⟨b, 4, none⟩ = some (.int .i64 (t.off : Int)) := hx
          clear hx
          go_simp
          try with_reducible rfl
        try simp only [Act.put, List.setIfInBounds_toArray, List.set_cons_zero, List.set_cons_succ]
        refine wpAnyT_tk 2 _ ?_ rfl rfl (by kernel_rfl) (fun _ _ _ h => h) (by assumption) (Or.inl ⟨by rfl, fun x hx => ?_⟩) ?_
        rotate_left
        · have hx2 : x.cell? ⟨b, 4, none⟩ = some (.int .i64 (t.off : Int)) := hx
          clear hx
          go_simp
          try with_reducible rfl
        try simp only [Act.put, List.setIfInBounds_toArray, List.set_cons_zero, List.set_cons_succ]
        refine wpAnyT_tk 3 _ ?_ rfl rfl (by kernel_rfl) (fun _ _ _ h => h) (by assumption) (Or.inl ⟨by rfl, fun x hx => ?_⟩) ?_
        rotate_left
        · have hx2 : x.cell? ⟨b, 4, none⟩ = some (.int .i64 (t.off : Int)) := hx
          clear hx
          go_simp
          try with_reducible rfl
        try simp only [Act.put, List.setIfInBounds_toArray, List.set_cons_zero, List.set_cons_succ]
        refine wpAnyT_one 1 rfl (by kernel_rfl) (fun K' hK' => ?_)
        go_simp
        go_at_call 25
        refine (atom_any X v ts (a + 1) f _ true HRd.out).mono ?_
        rintro e w7 ⟨hb7, he7⟩
        rw [HRES.out] at he7
        have he7 : e = gvE F := he7
        subst he7
        refine ⟨rfl, HBd.out.trans hb7, ?_⟩
        rw [HE.out]; rfl
      | ok ar =>
        obtain ⟨at1, r9⟩ := ar
        have HE : Hid (V = .ok (⟨2, at1, 0, .none, .none, t.off⟩, r9)) := Lib.hid (by rw [HD1.out] at hres; rw [HV.out]; simp [Gr.litP, HK.out, hres])
        have HRES := Lib.hid hres
        clear hres
        refine wp_region_T (fun x => x.cell? ⟨b, 4, none⟩ = some (.int .i64 (t.off : Int))) 5 (by kernel_rfl) ?_
        have hS : w4.drew.cell? ⟨b, 4, none⟩ = some (.int .i64 (t.off : Int)) := r4
        refine wpAnyT_tk 0 _ ?_ rfl rfl (by kernel_rfl) (fun _ _ _ h => h) (by assumption) (Or.inl ⟨by rfl, fun x hx => ?_⟩) ?_
        rotate_left
        · have hx2 : x.cell? ⟨b, 4, none⟩ = some (.int .i64 (t.off : Int)) := hx
          clear hx
          go_simp
          try with_reducible rfl
        try simp only [Act.put, List.setIfInBounds_toArray, List.set_cons_zero, List.set_cons_succ]
        refine wpAnyT_tk 2 _ ?_ rfl rfl (by kernel_rfl) (fun _ _ _ h => h) (by assumption) (Or.inl ⟨by rfl, fun x hx => ?_⟩) ?_
        rotate_left
        · have hx2 : x.cell? ⟨b, 4, none⟩ = some (.int .i64 (t.off : Int)) := hx
          clear hx
          go_simp
          try with_reducible rfl
        try simp only [Act.put, List.setIfInBounds_toArray, List.set_cons_zero, List.set_cons_succ]
        refine wpAnyT_tk 3 _ ?_ rfl rfl (by kernel_rfl) (fun _ _ _ h => h) (by assumption) (Or.inl ⟨by rfl, fun x hx => ?_⟩) ?_
        rotate_left
        · have hx2 : x.cell? ⟨b, 4, none⟩ = some (.int .i64 (t.off : Int)) := hx
          clear hx
          go_simp
          try with_reducible rfl
        try simp only [Act.put, List.setIfInBounds_toArray, List.set_cons_zero, List.set_cons_succ]
        refine wpAnyT_one 1 rfl (by kernel_rfl) (fun K' hK' => ?_)
        go_simp
        go_at_call 25
        refine (atom_any X v ts (a + 1) f _ true HRd.out).mono ?_
        rintro e w7 ⟨hb7, he7⟩
        rw [HRES.out] at he7
        obtain ⟨u7, q7, ⟨sl, hu7, ho7⟩, he7, hR7, hd7⟩ := he7
        subst hu7
        subst he7
        obtain ⟨ea, ec, rfl⟩ : ∃ ea ec, sl = .slice ea at1.args.length ec := by
          rcases Joins.ownsRow_forms ho7 with ⟨h5, h6⟩ | ⟨g, cap, h5⟩
          · exact ⟨none, 0, by rw [h5]; rw [h6]⟩
          · exact ⟨_, cap, h5⟩
        obtain ⟨ln, hln⟩ : ∃ ln, ln = at1.args.length := ⟨_, rfl⟩
        rw [← hln] at ho7 ⊢
        have HLN := Lib.hid hln
        clear hln
        have k7 : Kt (fun t => t ≠ 90) w4.drew w7 := Kt.bes hb7 HRd.out.row (by simp)
        have hS7 := (row6 (k7 _ _ _ HTd.out (by decide))).2.2.2.2.1
        have hq7 := k7 _ _ _ HQd.out (by decide)
        have HB7 := Lib.hid (HBd.out.trans hb7)
        have HR7 := Lib.hid hR7
        have HD7 := Lib.hid hd7
        have HO7 := Lib.hid (World.ownsRow.mono ho7 (show w.heap.size ≤ w4.drew.heap.size from HBd.out.size))
        have HQ7 := Lib.hid hq7
        clear hb7 hR7 hd7 ho7 k7 hS r0 r1 r2 r3 r4 r5 f0 f1 f2 f3 f4 f5
        obtain ⟨p0, p1, p2, p3, p4, p5, p6, p7, p8, p9, p10, p11, p12, p13, pf0, pf1, pf2, pf3, pf4, pf5, pf6, pf7, pf8, pf9, pf10, pf11, pf12, pf13⟩ := row101 hq7
        clear hq7
        refine hK' _ _ (fun _ => hS7) ?_
        clear hK' K'
        try simp only [Act.put, List.setIfInBounds_toArray, List.set_cons_zero, List.set_cons_succ]
        refine wpAnyT_one 4 rfl (by kernel_rfl) (fun K' hK' => ?_)
        go_simp
        refine hK' _ _ (fun _ => hS7) ?_
        clear hK' K'
        try simp only [Act.put, List.setIfInBounds_toArray, List.set_cons_zero, List.set_cons_succ]
        refine wpAnyT_one 5 rfl (by kernel_rfl) (fun K' hK' => ?_)
        go_simp
        refine hK' _ _ (fun h => absurd rfl h) ?_
        clear hK' K'
        try simp only [Act.put, List.setIfInBounds_toArray, List.set_cons_zero, List.set_cons_succ]
        refine wpAnyT_done (by kernel_rfl) ?_ _
        have HH := Lib.hid (lit_set (x0 := .int .i64 2) (x1 := .string ⟨at1.pred.toArray⟩) (x2 := (.slice ea ln ec)) (x3 := .int .i64 (at1.off : Int)) (x4 := .int .i64 0) (x5 := .int .i64 0) (x6 := .int .i64 0) (x7 := .string { data := #[] }) (x8 := .int .i64 0) (x9 := .int .i64 0) (x10 := .int .i64 0) (x11 := .string { data := #[] }) (x12 := .int .i64 0) (x13 := .int .i64 (t.off : Int)) HQ7.out)
        have HBZ := Lib.hid (lit_bes (x0 := .int .i64 2) (x1 := .string ⟨at1.pred.toArray⟩) (x2 := (.slice ea ln ec)) (x3 := .int .i64 (at1.off : Int)) (x4 := .int .i64 0) (x5 := .int .i64 0) (x6 := .int .i64 0) (x7 := .string { data := #[] }) (x8 := .int .i64 0) (x9 := .int .i64 0) (x10 := .int .i64 0) (x11 := .string { data := #[] }) (x12 := .int .i64 0) (x13 := .int .i64 (t.off : Int)) HB7.out (Nat.le_refl _))
        have HRZ := Lib.hid (hR.turn HBZ.out (q := q7) (by rw [lit_oth (by omega)]; exact HR7.out.row) HR7.out.le)
        have HOZ := Lib.hid ((lit_kt (T := fun t => t = 59) (x0 := .int .i64 2) (x1 := .string ⟨at1.pred.toArray⟩) (x2 := (.slice ea ln ec)) (x3 := .int .i64 (at1.off : Int)) (x4 := .int .i64 0) (x5 := .int .i64 0) (x6 := .int .i64 0) (x7 := .string { data := #[] }) (x8 := .int .i64 0) (x9 := .int .i64 0) (x10 := .int .i64 0) (x11 := .string { data := #[] }) (x12 := .int .i64 0) (x13 := .int .i64 (t.off : Int)) HQ7.out (by decide)).own rfl HO7.out)
        clear p0 p1 p2 p3 p4 p5 p6 p7 p8 p9 p10 p11 p12 p13 pf0 pf1 pf2 pf3 pf4 pf5 pf6 pf7 pf8 pf9 pf10 pf11 pf12 pf13 hS7
        go_wp2
        refine bodyPost_ret (results_cell_row rfl _ _ w.heap.size 101 #[.int .i64 2, .string ⟨at1.pred.toArray⟩, (.slice ea ln ec), .int .i64 (at1.off : Int), .int .i64 0, .int .i64 0, .int .i64 0, .string { data := #[] }, .int .i64 0, .int .i64 0, .int .i64 0, .string { data := #[] }, .int .i64 0, .int .i64 (t.off : Int)] (0, 0) _ rfl HH.out Tryz.underlying101 rfl Tryz.size101) rfl ?_
        refine ⟨HBZ.out, ?_⟩
        rw [HE.out]
        exact ⟨_, q7, ⟨.slice ea ln ec, rfl, by have := HOZ.out; rw [HLN.out] at this ⊢; exact this⟩, rfl, HRZ.out, HD7.out⟩
    · have e10 : ((t.kind : Int) == 10) = false := by simp; omega
      have HB3b := Lib.hid (Bes.of (X := X) HB3.out)
      by_cases h1 : t.kind = 1
      · have e1 : ((t.kind : Int) == 1) = true := by simp; omega
        go_wp2_with fail
        refine (opBehind_any X v ts a f _ t r HD.out HR3.out).mono ?_
        rintro e w4 ⟨rfl, hb4⟩
        have HR4 := Lib.hid (HR3.out.below hb4)
        have HB4 := Lib.hid (HB3b.out.trans (Bes.of hb4))
        have kb4 : Kt (fun _ => True) w3 w4 := Kt.below hb4
        have HQ4 := Lib.hid (kb4 _ _ _ HQ3.out trivial)
        have t4 := kb4 _ _ _ HT3.out trivial
        have HT4 := Lib.hid t4
        clear r0 r1 r2 r3 r4 r5 f0 f1 f2 f3 f4 f5 hb4 kb4
        obtain ⟨r0, r1, r2, r3, r4, r5, f0, f1, f2, f3, f4, f5⟩ := row6 t4
        clear t4
        cases hop : Gr.hdOp r with
        | false =>
          have HK := Lib.hid (show t.kind = 1 ∧ Gr.hdOp r = false from ⟨h1, hop⟩)
          clear h1 h10 hop
          go_upto_region 6 with fail
          have hbd : Below w4.heap.size w4 w4.drew := drew_below _ _
          have HRd := Lib.hid (HR4.out.below hbd)
          have HBd := Lib.hid (HB4.out.trans (Bes.of hbd))
          have HQd : Hid (w4.drew.heap[w.heap.size]? = some (.cells #[.int .i64 0, .string { data := #[] }, .slice none 0 0, .int .i64 0, .int .i64 0, .int .i64 0, .int .i64 0, .string { data := #[] }, .int .i64 0, .int .i64 0, .int .i64 0, .string { data := #[] }, .int .i64 0, .int .i64 0] 101)) := Lib.hid HQ4.out
          have HTd : Hid (w4.drew.heap[b]? = some (.cells #[.int .i64 (t.kind : Int), .string { data := t.text.toArray }, .int .i64 t.int, .int .i64 (t.op : Int), .int .i64 (t.off : Int), .int .i64 (t.fin : Int)] 62)) := Lib.hid HT4.out
          clear hbd
          cases hres : Gr.atomP f true (ts.drop a) with
          | error F =>
            have HE : Hid (V = .error F) := Lib.hid (by rw [HD.out] at hres; rw [HV.out]; simp [Gr.litP, HK.out, hres])
            have HRES := Lib.hid hres
            clear hres
            refine wp_region_T (fun x => x.cell? ⟨b, 4, none⟩ = some (.int .i64 (t.off : Int))) 5 (by kernel_rfl) ?_
            have hS : w4.drew.cell? ⟨b, 4, none⟩ = some (.int .i64 (t.off : Int)) := r4
            refine wpAnyT_tk 0 _ ?_ rfl rfl (by kernel_rfl) (fun _ _ _ h => h) (by assumption) (Or.inl ⟨by rfl, fun x hx => ?_⟩) ?_
            rotate_left
            · have hx2 : x.cell? ⟨b, 4, none⟩ = some (.int .i64 (t.off : Int)) := hx
              clear hx
              go_simp
              try with_reducible rfl
            try simp only [Act.put, List.setIfInBounds_toArray, List.set_cons_zero, List.set_cons_succ]
            refine wpAnyT_tk 2 _ ?_ rfl rfl (by kernel_rfl) (fun _ _ _ h => h) (by assumption) (Or.inl ⟨by rfl, fun x hx => ?_⟩) ?_
            rotate_left
            · have hx2 : x.cell? ⟨b, 4, none⟩ = some (.int .i64 (t.off : Int)) := hx
              clear hx
              go_simp
              try with_reducible rfl
            try simp only [Act.put, List.setIfInBounds_toArray, List.set_cons_zero, List.set_cons_succ]
            refine wpAnyT_tk 3 _ ?_ rfl rfl (by kernel_rfl) (fun _ _ _ h => h) (by assumption) (Or.inl ⟨by rfl, fun x hx => ?_⟩) ?_
            rotate_left
            · have hx2 : x.cell? ⟨b, 4, none⟩ = some (.int .i64 (t.off : Int)) := hx
              clear hx
              go_simp
              try with_reducible rfl
            try simp only [Act.put, List.setIfInBounds_toArray, List.set_cons_zero, List.set_cons_succ]
            refine wpAnyT_one 1 rfl (by kernel_rfl) (fun K' hK' => ?_)
            go_simp
            go_at_call 25
            refine (atom_any X v ts a f _ true HRd.out).mono ?_
            rintro e w7 ⟨hb7, he7⟩
            rw [HRES.out] at he7
            have he7 : e = gvE F := he7
            subst he7
            refine ⟨rfl, HBd.out.trans hb7, ?_⟩
            rw [HE.out]; rfl
          | ok ar =>
            obtain ⟨at1, r9⟩ := ar
            have HE : Hid (V = .ok (⟨1, at1, 0, .none, .none, t.off⟩, r9)) := Lib.hid (by rw [HD.out] at hres; rw [HV.out]; simp [Gr.litP, HK.out, hres])
            have HRES := Lib.hid hres
            clear hres
            refine wp_region_T (fun x => x.cell? ⟨b, 4, none⟩ = some (.int .i64 (t.off : Int))) 5 (by kernel_rfl) ?_
            have hS : w4.drew.cell? ⟨b, 4, none⟩ = some (.int .i64 (t.off : Int)) := r4
            refine wpAnyT_tk 0 _ ?_ rfl rfl (by kernel_rfl) (fun _ _ _ h => h) (by assumption) (Or.inl ⟨by rfl, fun x hx => ?_⟩) ?_
            rotate_left
            · have hx2 : x.cell? ⟨b, 4, none⟩ = some (.int .i64 (t.off : Int)) := hx
              clear hx
              go_simp
              try with_reducible rfl
            try simp only [Act.put, List.setIfInBounds_toArray, List.set_cons_zero, List.set_cons_succ]
            refine wpAnyT_tk 2 _ ?_ rfl rfl (by kernel_rfl) (fun _ _ _ h => h) (by assumption) (Or.inl ⟨by rfl, fun x hx => ?_⟩) ?_
            rotate_left
            · have hx2 : x.cell? ⟨b, 4, none⟩ = some (.int .i64 (t.off : Int)) := hx
              clear hx
              go_simp
              try with_reducible rfl
            try simp only [Act.put, List.setIfInBounds_toArray, List.set_cons_zero, List.set_cons_succ]
            refine wpAnyT_tk 3 _ ?_ rfl rfl (by kernel_rfl) (fun _ _ _ h => h) (by assumption) (Or.inl ⟨by rfl, fun x hx => ?_⟩) ?_
            rotate_left
            · have hx2 : x.cell? ⟨b, 4, none⟩ = some (.int .i64 (t.off : Int)) := hx
              clear hx
              go_simp
              try with_reducible rfl
            try simp only [Act.put, List.setIfInBounds_toArray, List.set_cons_zero, List.set_cons_succ]
            refine wpAnyT_one 1 rfl (by kernel_rfl) (fun K' hK' => ?_)
            go_simp
            go_at_call 25
            refine (atom_any X v ts a f _ true HRd.out).mono ?_
            rintro e w7 ⟨hb7, he7⟩
            rw [HRES.out] at he7
            obtain ⟨u7, q7, ⟨sl, hu7, ho7⟩, he7, hR7, hd7⟩ := he7
            subst hu7
            subst he7
            obtain ⟨ea, ec, rfl⟩ : ∃ ea ec, sl = .slice ea at1.args.length ec := by
              rcases Joins.ownsRow_forms ho7 with ⟨h5, h6⟩ | ⟨g, cap, h5⟩
              · exact ⟨none, 0, by rw [h5]; rw [h6]⟩
              · exact ⟨_, cap, h5⟩
            obtain ⟨ln, hln⟩ : ∃ ln, ln = at1.args.length := ⟨_, rfl⟩
            rw [← hln] at ho7 ⊢
            have HLN := Lib.hid hln
            clear hln
            have k7 : Kt (fun t => t ≠ 90) w4.drew w7 := Kt.bes hb7 HRd.out.row (by simp)
            have hS7 := (row6 (k7 _ _ _ HTd.out (by decide))).2.2.2.2.1
            have hq7 := k7 _ _ _ HQd.out (by decide)
            have HB7 := Lib.hid (HBd.out.trans hb7)
            have HR7 := Lib.hid hR7
            have HD7 := Lib.hid hd7
            have HO7 := Lib.hid (World.ownsRow.mono ho7 (show w.heap.size ≤ w4.drew.heap.size from HBd.out.size))
            have HQ7 := Lib.hid hq7
            clear hb7 hR7 hd7 ho7 k7 hS r0 r1 r2 r3 r4 r5 f0 f1 f2 f3 f4 f5
            obtain ⟨p0, p1, p2, p3, p4, p5, p6, p7, p8, p9, p10, p11, p12, p13, pf0, pf1, pf2, pf3, pf4, pf5, pf6, pf7, pf8, pf9, pf10, pf11, pf12, pf13⟩ := row101 hq7
            clear hq7
            refine hK' _ _ (fun _ => hS7) ?_
            clear hK' K'
            try simp only [Act.put, List.setIfInBounds_toArray, List.set_cons_zero, List.set_cons_succ]
            refine wpAnyT_one 4 rfl (by kernel_rfl) (fun K' hK' => ?_)
            go_simp
            refine hK' _ _ (fun _ => hS7) ?_
            clear hK' K'
            try simp only [Act.put, List.setIfInBounds_toArray, List.set_cons_zero, List.set_cons_succ]
            refine wpAnyT_one 5 rfl (by kernel_rfl) (fun K' hK' => ?_)
            go_simp
            refine hK' _ _ (fun h => absurd rfl h) ?_
            clear hK' K'
            try simp only [Act.put, List.setIfInBounds_toArray, List.set_cons_zero, List.set_cons_succ]
            refine wpAnyT_done (by kernel_rfl) ?_ _
            have HH := Lib.hid (lit_set (x0 := .int .i64 1) (x1 := .string ⟨at1.pred.toArray⟩) (x2 := (.slice ea ln ec)) (x3 := .int .i64 (at1.off : Int)) (x4 := .int .i64 0) (x5 := .int .i64 0) (x6 := .int .i64 0) (x7 := .string { data := #[] }) (x8 := .int .i64 0) (x9 := .int .i64 0) (x10 := .int .i64 0) (x11 := .string { data := #[] }) (x12 := .int .i64 0) (x13 := .int .i64 (t.off : Int)) HQ7.out)
            have HBZ := Lib.hid (lit_bes (x0 := .int .i64 1) (x1 := .string ⟨at1.pred.toArray⟩) (x2 := (.slice ea ln ec)) (x3 := .int .i64 (at1.off : Int)) (x4 := .int .i64 0) (x5 := .int .i64 0) (x6 := .int .i64 0) (x7 := .string { data := #[] }) (x8 := .int .i64 0) (x9 := .int .i64 0) (x10 := .int .i64 0) (x11 := .string { data := #[] }) (x12 := .int .i64 0) (x13 := .int .i64 (t.off : Int)) HB7.out (Nat.le_refl _))
            have HRZ := Lib.hid (hR.turn HBZ.out (q := q7) (by rw [lit_oth (by omega)]; exact HR7.out.row) HR7.out.le)
            have HOZ := Lib.hid ((lit_kt (T := fun t => t = 59) (x0 := .int .i64 1) (x1 := .string ⟨at1.pred.toArray⟩) (x2 := (.slice ea ln ec)) (x3 := .int .i64 (at1.off : Int)) (x4 := .int .i64 0) (x5 := .int .i64 0) (x6 := .int .i64 0) (x7 := .string { data := #[] }) (x8 := .int .i64 0) (x9 := .int .i64 0) (x10 := .int .i64 0) (x11 := .string { data := #[] }) (x12 := .int .i64 0) (x13 := .int .i64 (t.off : Int)) HQ7.out (by decide)).own rfl HO7.out)
            clear p0 p1 p2 p3 p4 p5 p6 p7 p8 p9 p10 p11 p12 p13 pf0 pf1 pf2 pf3 pf4 pf5 pf6 pf7 pf8 pf9 pf10 pf11 pf12 pf13 hS7
            go_wp2
            refine bodyPost_ret (results_cell_row rfl _ _ w.heap.size 101 #[.int .i64 1, .string ⟨at1.pred.toArray⟩, (.slice ea ln ec), .int .i64 (at1.off : Int), .int .i64 0, .int .i64 0, .int .i64 0, .string { data := #[] }, .int .i64 0, .int .i64 0, .int .i64 0, .string { data := #[] }, .int .i64 0, .int .i64 (t.off : Int)] (0, 0) _ rfl HH.out Tryz.underlying101 rfl Tryz.size101) rfl ?_
            refine ⟨HBZ.out, ?_⟩
            rw [HE.out]
            exact ⟨_, q7, ⟨.slice ea ln ec, rfl, by have := HOZ.out; rw [HLN.out] at this ⊢; exact this⟩, rfl, HRZ.out, HD7.out⟩
        | true =>
          have HK : Hid (V = (match Gr.termP f true (t :: r) with
            | .error e => .error e
            | .ok (x, r1) => match Gr.takeP f 11 r1 with
              | .error e => .error e
              | .ok (o, r2) => match Gr.termP f true r2 with
                | .error e => .error e
                | .ok (y, r3) => .ok (⟨3, ⟨[], [], 0⟩, o.op, x, y, t.off⟩, r3))) := Lib.hid (by rw [HV.out]; simp [Gr.litP, h10, hop]; rfl)
          clear h1 h10 hop
          go_upto_region 7 with fail
          have hbd : Below w4.heap.size w4 w4.drew := drew_below _ _
          have HRd := Lib.hid (HR4.out.below hbd)
          have HBd := Lib.hid (HB4.out.trans (Bes.of hbd))
          have HQd : Hid (w4.drew.heap[w.heap.size]? = some (.cells #[.int .i64 0, .string { data := #[] }, .slice none 0 0, .int .i64 0, .int .i64 0, .int .i64 0, .int .i64 0, .string { data := #[] }, .int .i64 0, .int .i64 0, .int .i64 0, .string { data := #[] }, .int .i64 0, .int .i64 0] 101)) := Lib.hid HQ4.out
          have HTd : Hid (w4.drew.heap[b]? = some (.cells #[.int .i64 (t.kind : Int), .string { data := t.text.toArray }, .int .i64 t.int, .int .i64 (t.op : Int), .int .i64 (t.off : Int), .int .i64 (t.fin : Int)] 62)) := Lib.hid HT4.out
          clear hbd
          cases hx : Gr.termP f true (ts.drop a) with
          | error F =>
            have HE : Hid (V = .error F) := Lib.hid (by rw [HK.out]; rw [HD.out] at hx; rw [hx])
            have HRES := Lib.hid hx
            clear hx
            refine wp_region_T (fun x => x.cell? ⟨b, 4, none⟩ = some (.int .i64 (t.off : Int))) 6 (by kernel_rfl) ?_
            have hS : w4.drew.cell? ⟨b, 4, none⟩ = some (.int .i64 (t.off : Int)) := r4
            refine wpAnyT_tk 0 _ ?_ rfl rfl (by kernel_rfl) (fun _ _ _ h => h) (by assumption) (Or.inl ⟨by rfl, fun x hx => ?_⟩) ?_
            rotate_left
            · have hx2 : x.cell? ⟨b, 4, none⟩ = some (.int .i64 (t.off : Int)) := hx
              clear hx
              go_simp
              try with_reducible rfl
            try simp only [Act.put, List.setIfInBounds_toArray, List.set_cons_zero, List.set_cons_succ]
            refine wpAnyT_tk 2 _ ?_ rfl rfl (by kernel_rfl) (fun _ _ _ h => h) (by assumption) (Or.inl ⟨by rfl, fun x hx => ?_⟩) ?_
            rotate_left
            · have hx2 : x.cell? ⟨b, 4, none⟩ = some (.int .i64 (t.off : Int)) := hx
              clear hx
              go_simp
              try with_reducible rfl
            try simp only [Act.put, List.setIfInBounds_toArray, List.set_cons_zero, List.set_cons_succ]
            refine wpAnyT_tk 3 _ ?_ rfl rfl (by kernel_rfl) (fun _ _ _ h => h) (by assumption) (Or.inl ⟨by rfl, fun x hx => ?_⟩) ?_
            rotate_left
            · have hx2 : x.cell? ⟨b, 4, none⟩ = some (.int .i64 (t.off : Int)) := hx
              clear hx
              go_simp
              try with_reducible rfl
            try simp only [Act.put, List.setIfInBounds_toArray, List.set_cons_zero, List.set_cons_succ]
            refine wpAnyT_two 1 5 rfl rfl (by kernel_rfl) (fun K' hK' => ?_) (fun K' hK' => ?_)
            · go_simp
              go_at_call 47
              refine (term_any X v ts a f _ true HRd.out).mono ?_
              rintro e w7 ⟨hb7, he7⟩
              rw [HRES.out] at he7
              have he7 : e = gvE F := he7
              subst he7
              refine ⟨rfl, HBd.out.trans hb7, ?_⟩
              rw [HE.out]; rfl
            · go_simp
              have hSa : (w4.drew.alloc (.cells #[.int .i64 0, .string { data := #[] }, .slice none 0 0, .int .i64 0, .int .i64 0, .int .i64 0, .int .i64 0, .string { data := #[] }, .int .i64 0, .int .i64 0, .int .i64 0, .string { data := #[] }, .int .i64 0, .int .i64 0] 101)).cell? ⟨b, 4, none⟩ = some (.int .i64 (t.off : Int)) := (row6 (Kt.alloc (T := fun _ => True) w4.drew _ _ _ _ HTd.out trivial)).2.2.2.2.1
              refine hK' _ _ (fun _ => hSa) ?_
              clear hK' K'
              try simp only [Act.put, List.setIfInBounds_toArray, List.set_cons_zero, List.set_cons_succ]
              refine wpAnyT_one 1 rfl (by kernel_rfl) (fun K' hK' => ?_)
              go_simp
              go_at_call 47
              refine (term_any X v ts a f _ true (HRd.out.alloc (.cells #[.int .i64 0, .string { data := #[] }, .slice none 0 0, .int .i64 0, .int .i64 0, .int .i64 0, .int .i64 0, .string { data := #[] }, .int .i64 0, .int .i64 0, .int .i64 0, .string { data := #[] }, .int .i64 0, .int .i64 0] 101))).mono ?_
              rintro e w7 ⟨hb7, he7⟩
              rw [HRES.out] at he7
              have he7 : e = gvE F := he7
              subst he7
              refine ⟨rfl, (HBd.out.alloc (.cells #[.int .i64 0, .string { data := #[] }, .slice none 0 0, .int .i64 0, .int .i64 0, .int .i64 0, .int .i64 0, .string { data := #[] }, .int .i64 0, .int .i64 0, .int .i64 0, .string { data := #[] }, .int .i64 0, .int .i64 0] 101)).trans hb7, ?_⟩
              rw [HE.out]; rfl
          | ok xr =>
            obtain ⟨x, r9⟩ := xr
            have HE : Hid (V = (match Gr.takeP f 11 r9 with
                    | .error e => .error e
                    | .ok (o, r2) => match Gr.termP f true r2 with
                      | .error e => .error e
                      | .ok (y, r3) => .ok (⟨3, ⟨[], [], 0⟩, o.op, x, y, t.off⟩, r3))) := Lib.hid (by rw [HK.out]; rw [HD.out] at hx; rw [hx])
            have HRES := Lib.hid hx
            clear hx
            refine wp_region_T (fun x => x.cell? ⟨b, 4, none⟩ = some (.int .i64 (t.off : Int))) 6 (by kernel_rfl) ?_
            have hS : w4.drew.cell? ⟨b, 4, none⟩ = some (.int .i64 (t.off : Int)) := r4
            refine wpAnyT_tk 0 _ ?_ rfl rfl (by kernel_rfl) (fun _ _ _ h => h) (by assumption) (Or.inl ⟨by rfl, fun x hx => ?_⟩) ?_
            rotate_left
            · have hx2 : x.cell? ⟨b, 4, none⟩ = some (.int .i64 (t.off : Int)) := hx
              clear hx
              go_simp
              try with_reducible rfl
            try simp only [Act.put, List.setIfInBounds_toArray, List.set_cons_zero, List.set_cons_succ]
            refine wpAnyT_tk 2 _ ?_ rfl rfl (by kernel_rfl) (fun _ _ _ h => h) (by assumption) (Or.inl ⟨by rfl, fun x hx => ?_⟩) ?_
            rotate_left
            · have hx2 : x.cell? ⟨b, 4, none⟩ = some (.int .i64 (t.off : Int)) := hx
              clear hx
              go_simp
              try with_reducible rfl
            try simp only [Act.put, List.setIfInBounds_toArray, List.set_cons_zero, List.set_cons_succ]
            refine wpAnyT_tk 3 _ ?_ rfl rfl (by kernel_rfl) (fun _ _ _ h => h) (by assumption) (Or.inl ⟨by rfl, fun x hx => ?_⟩) ?_
            rotate_left
            · have hx2 : x.cell? ⟨b, 4, none⟩ = some (.int .i64 (t.off : Int)) := hx
              clear hx
              go_simp
              try with_reducible rfl
            try simp only [Act.put, List.setIfInBounds_toArray, List.set_cons_zero, List.set_cons_succ]
            refine wpAnyT_two 1 5 rfl rfl (by kernel_rfl) (fun K' hK' => ?_) (fun K' hK' => ?_)
            · go_simp
              go_at_call 47
              refine (term_any X v ts a f _ true HRd.out).mono ?_
              rintro e w7 ⟨hb7, he7⟩
              rw [HRES.out] at he7
              obtain ⟨u7, q7, hu7, he7, hR7, hd7⟩ := he7
              have hu7 : u7 = trmA x := hu7
              subst hu7
              subst he7
              simp only [trmA]
              have k7 : Kt (fun t => t ≠ 90) w4.drew w7 := Kt.bes hb7 HRd.out.row (by simp)
              have hS7 := (row6 (k7 _ _ _ HTd.out (by decide))).2.2.2.2.1
              have HQ7 := Lib.hid (k7 _ _ _ HQd.out (by decide))
              have HB7 := Lib.hid (HBd.out.trans hb7)
              have HR7 := Lib.hid hR7
              have HD7 := Lib.hid hd7
              have hS8 : (w7.alloc (.cells #[.int .i64 0, .string { data := #[] }, .slice none 0 0, .int .i64 0, .int .i64 0, .int .i64 0, .int .i64 0, .string { data := #[] }, .int .i64 0, .int .i64 0, .int .i64 0, .string { data := #[] }, .int .i64 0, .int .i64 0] 101)).cell? ⟨b, 4, none⟩ = some (.int .i64 (t.off : Int)) := (row6 (Kt.alloc (T := fun _ => True) w7 _ _ _ _ (k7 _ _ _ HTd.out (by decide)) trivial)).2.2.2.2.1
              clear hb7 hR7 hd7 k7 hS r0 r1 r2 r3 r4 r5 f0 f1 f2 f3 f4 f5
              refine hK' _ _ (fun _ => hS7) ?_
              clear hK' K'
              try simp only [Act.put, List.setIfInBounds_toArray, List.set_cons_zero, List.set_cons_succ]
              refine wpAnyT_tk 4 _ ?_ rfl rfl (by kernel_rfl) (fun _ _ _ h => h) (by assumption) (Or.inl ⟨by rfl, fun x hx => ?_⟩) ?_
              rotate_left
              · have hx2 : x.cell? ⟨b, 4, none⟩ = some (.int .i64 (t.off : Int)) := hx
                clear hx
                go_simp
                try with_reducible rfl
              try simp only [Act.put, List.setIfInBounds_toArray, List.set_cons_zero, List.set_cons_succ]
              refine wpAnyT_one 5 rfl (by kernel_rfl) (fun K' hK' => ?_)
              go_simp
              refine hK' _ _ (fun _ => hS8) ?_
              clear hK' K'
              try simp only [Act.put, List.setIfInBounds_toArray, List.set_cons_zero, List.set_cons_succ]
              obtain ⟨w8, hw8⟩ : ∃ w8, w8 = w7.alloc (.cells #[.int .i64 0, .string { data := #[] }, .slice none 0 0, .int .i64 0, .int .i64 0, .int .i64 0, .int .i64 0, .string { data := #[] }, .int .i64 0, .int .i64 0, .int .i64 0, .string { data := #[] }, .int .i64 0, .int .i64 0] 101) := ⟨_, rfl⟩
              rw [← hw8]
              have q8 : w8.heap[w7.heap.size]? = some (.cells #[.int .i64 0, .string { data := #[] }, .slice none 0 0, .int .i64 0, .int .i64 0, .int .i64 0, .int .i64 0, .string { data := #[] }, .int .i64 0, .int .i64 0, .int .i64 0, .string { data := #[] }, .int .i64 0, .int .i64 0] 101) := by rw [hw8]; exact heap_alloc_new _ _
              have HB8 : Hid (Bes X w w8) := Lib.hid (by rw [hw8]; exact HB7.out.alloc _)
              have HR8 : Hid (Rdr w8 X v ts q7 f) := Lib.hid (by rw [hw8]; exact HR7.out.alloc _)
              have HQ8 : Hid (w8.heap[w.heap.size]? = some (.cells #[.int .i64 0, .string { data := #[] }, .slice none 0 0, .int .i64 0, .int .i64 0, .int .i64 0, .int .i64 0, .string { data := #[] }, .int .i64 0, .int .i64 0, .int .i64 0, .string { data := #[] }, .int .i64 0, .int .i64 0] 101)) := Lib.hid (by rw [hw8]; exact Kt.alloc (T := fun _ => True) w7 _ _ _ _ HQ7.out trivial)
              obtain ⟨d, hd0⟩ : ∃ d, d = w7.heap.size := ⟨_, rfl⟩
              rw [← hd0] at q8 ⊢
              have HD0 : Hid (w.heap.size < d ∧ d ≠ X ∧ w.heap.size ≠ d) := Lib.hid (by
                have h1 := (Array.getElem?_eq_some_iff.1 HQ7.out).1
                have h2 := HR7.out.lt
                omega)
              clear hw8 hd0 hS7 hS8 HQ7 HR7 HB7
              obtain ⟨p0, p1, p2, p3, p4, p5, p6, p7, p8, p9, p10, p11, p12, p13, pf0, pf1, pf2, pf3, pf4, pf5, pf6, pf7, pf8, pf9, pf10, pf11, pf12, pf13⟩ := row101 q8
              refine wpAnyT_one 6 rfl (by kernel_rfl) (fun K' hK' => ?_)
              go_simp
              refine hK' _ _ (fun h => absurd rfl h) ?_
              clear hK' K'
              try simp only [Act.put, List.setIfInBounds_toArray, List.set_cons_zero, List.set_cons_succ]
              refine wpAnyT_done (by kernel_rfl) ?_ _
              clear p0 p1 p2 p3 p4 p5 p6 p7 p8 p9 p10 p11 p12 p13 pf0 pf1 pf2 pf3 pf4 pf5 pf6 pf7 pf8 pf9 pf10 pf11 pf12 pf13
              obtain ⟨w9, hw9⟩ : ∃ w9, w9 = ((((((((((((((w8.setCell ⟨d, 0, none⟩ (.int .i64 3)).setCell ⟨d, 1, none⟩ (.string { data := #[] })).setCell ⟨d, 2, none⟩ (.slice none 0 0)).setCell ⟨d, 3, none⟩ (.int .i64 0)).setCell ⟨d, 4, none⟩ (.int .i64 0)).setCell ⟨d, 5, none⟩ (.int .i64 (x.kind : Int))).setCell ⟨d, 6, none⟩ (.int .i64 x.int)).setCell ⟨d, 7, none⟩ (.string ⟨x.text.toArray⟩)).setCell ⟨d, 8, none⟩ (.int .i64 (x.off : Int))).setCell ⟨d, 9, none⟩ (.int .i64 0)).setCell ⟨d, 10, none⟩ (.int .i64 0)).setCell ⟨d, 11, none⟩ (.string { data := #[] })).setCell ⟨d, 12, none⟩ (.int .i64 0)).setCell ⟨d, 13, none⟩ (.int .i64 (t.off : Int))) := ⟨_, rfl⟩
              rw [← hw9]
              have q9 : w9.heap[d]? = some (.cells #[.int .i64 3, .string { data := #[] }, .slice none 0 0, .int .i64 0, .int .i64 0, .int .i64 (x.kind : Int), .int .i64 x.int, .string ⟨x.text.toArray⟩, .int .i64 (x.off : Int), .int .i64 0, .int .i64 0, .string { data := #[] }, .int .i64 0, .int .i64 (t.off : Int)] 101) := by rw [hw9]; exact lit_set (x0 := .int .i64 3) (x1 := .string { data := #[] }) (x2 := .slice none 0 0) (x3 := .int .i64 0) (x4 := .int .i64 0) (x5 := .int .i64 (x.kind : Int)) (x6 := .int .i64 x.int) (x7 := .string ⟨x.text.toArray⟩) (x8 := .int .i64 (x.off : Int)) (x9 := .int .i64 0) (x10 := .int .i64 0) (x11 := .string { data := #[] }) (x12 := .int .i64 0) (x13 := .int .i64 (t.off : Int)) q8
              have HB9 : Hid (Bes X w w9) := Lib.hid (by rw [hw9]; exact lit_bes (x0 := .int .i64 3) (x1 := .string { data := #[] }) (x2 := .slice none 0 0) (x3 := .int .i64 0) (x4 := .int .i64 0) (x5 := .int .i64 (x.kind : Int)) (x6 := .int .i64 x.int) (x7 := .string ⟨x.text.toArray⟩) (x8 := .int .i64 (x.off : Int)) (x9 := .int .i64 0) (x10 := .int .i64 0) (x11 := .string { data := #[] }) (x12 := .int .i64 0) (x13 := .int .i64 (t.off : Int)) HB8.out (Nat.le_of_lt HD0.out.1))
              have HQ9 : Hid (w9.heap[w.heap.size]? = some (.cells #[.int .i64 0, .string { data := #[] }, .slice none 0 0, .int .i64 0, .int .i64 0, .int .i64 0, .int .i64 0, .string { data := #[] }, .int .i64 0, .int .i64 0, .int .i64 0, .string { data := #[] }, .int .i64 0, .int .i64 0] 101)) := Lib.hid (by rw [hw9, lit_oth HD0.out.2.2]; exact HQ8.out)
              have HR9 : Hid (Rdr w9 X v ts q7 f) := Lib.hid (HR8.out.kt (T := fun t => t ≠ 101) (by rw [hw9]; exact lit_kt (x0 := .int .i64 3) (x1 := .string { data := #[] }) (x2 := .slice none 0 0) (x3 := .int .i64 0) (x4 := .int .i64 0) (x5 := .int .i64 (x.kind : Int)) (x6 := .int .i64 x.int) (x7 := .string ⟨x.text.toArray⟩) (x8 := .int .i64 (x.off : Int)) (x9 := .int .i64 0) (x10 := .int .i64 0) (x11 := .string { data := #[] }) (x12 := .int .i64 0) (x13 := .int .i64 (t.off : Int)) q8 (by simp)) (by decide) (by decide))
              have HP9 := Lib.hid q9
              clear hw9 q9 q8 HB8 HQ8 HR8
              go_wp2_with fail
              cases ho : Gr.takeP f 11 (ts.drop q7) with
              | error F =>
                have HE2 : Hid (V = .error F) := Lib.hid (by rw [HE.out]; rw [HD7.out] at ho; rw [ho])
                refine (take_any X v ts q7 f _ 11 HR9.out).mono ?_
                rintro e w10 ⟨hb10, he10⟩
                rw [ho] at he10
                have he10 : e = gvE F := he10
                clear ho
                subst he10
                refine ⟨rfl, HB9.out.trans hb10, ?_⟩
                rw [HE2.out]; rfl
              | ok orr =>
                obtain ⟨o, r8⟩ := orr
                have HE2 : Hid (V = (match Gr.termP f true r8 with
                        | .error e => .error e
                        | .ok (y, r3) => .ok (⟨3, ⟨[], [], 0⟩, o.op, x, y, t.off⟩, r3))) := Lib.hid (by rw [HE.out]; rw [HD7.out] at ho; rw [ho])
                refine (take_any X v ts q7 f _ 11 HR9.out).mono ?_
                rintro e w10 ⟨hb10, he10⟩
                rw [ho] at he10
                obtain ⟨u10, q10, hu10, he10, hR10, hd10⟩ := he10
                have hu10 : u10 = tkA o := hu10
                clear ho
                subst hu10
                subst he10
                simp only [tkA]
                have k10 : Kt (fun t => t ≠ 90) w9 w10 := Kt.bes hb10 HR9.out.row (by simp)
                have hp10 := k10 _ _ _ HP9.out (by decide)
                have HP10 := Lib.hid hp10
                have HQ10 := Lib.hid (k10 _ _ _ HQ9.out (by decide))
                have HB10 := Lib.hid (HB9.out.trans hb10)
                have HR10 := Lib.hid hR10
                have HD10 := Lib.hid hd10
                obtain ⟨p0, p1, p2, p3, p4, p5, p6, p7, p8, p9, p10, p11, p12, p13, pf0, pf1, pf2, pf3, pf4, pf5, pf6, pf7, pf8, pf9, pf10, pf11, pf12, pf13⟩ := row101 hp10
                clear k10 hp10 hb10 hR10 hd10 HP9 HQ9 HB9 HR9
                go_upto_region 9 with fail
                obtain ⟨w11, hw11⟩ : ∃ w11, w11 = w10.setCell ⟨d, 4, none⟩ (.int .i64 (o.op : Int)) := ⟨_, rfl⟩
                rw [← hw11]
                have HP11 : Hid (w11.heap[d]? = some (.cells #[.int .i64 3, .string { data := #[] }, .slice none 0 0, .int .i64 0, .int .i64 (o.op : Int), .int .i64 (x.kind : Int), .int .i64 x.int, .string ⟨x.text.toArray⟩, .int .i64 (x.off : Int), .int .i64 0, .int .i64 0, .string { data := #[] }, .int .i64 0, .int .i64 (t.off : Int)] 101)) := Lib.hid (by rw [hw11]; exact lit_op HP10.out)
                have HB11 : Hid (Bes X w w11) := Lib.hid (by rw [hw11]; exact HB10.out.set (p := ⟨d, 4, none⟩) (.inr (Nat.le_of_lt HD0.out.1)) _)
                have HQ11 : Hid (w11.heap[w.heap.size]? = some (.cells #[.int .i64 0, .string { data := #[] }, .slice none 0 0, .int .i64 0, .int .i64 0, .int .i64 0, .int .i64 0, .string { data := #[] }, .int .i64 0, .int .i64 0, .int .i64 0, .string { data := #[] }, .int .i64 0, .int .i64 0] 101)) := Lib.hid (by rw [hw11, Below.heap_setCell _ _ _ _ HD0.out.2.2]; exact HQ10.out)
                have HR11 : Hid (Rdr w11 X v ts q10 f) := Lib.hid (HR10.out.kt (T := fun t => t ≠ 101) (by rw [hw11]; exact Kt.set (p := ⟨d, 4, none⟩) HP10.out (by simp)) (by decide) (by decide))
                clear p0 p1 p2 p3 p4 p5 p6 p7 p8 p9 p10 p11 p12 p13 pf0 pf1 pf2 pf3 pf4 pf5 pf6 pf7 pf8 pf9 pf10 pf11 pf12 pf13
                clear hw11 HP10 HB10 HQ10 HR10
                go_wp2_with fail
                cases hy : Gr.termP f true (ts.drop q10) with
                | error F =>
                  have HE3 : Hid (V = .error F) := Lib.hid (by rw [HE2.out]; rw [HD10.out] at hy; rw [hy])
                  refine (term_any X v ts q10 f _ true HR11.out).mono ?_
                  rintro e w12 ⟨hb12, he12⟩
                  rw [hy] at he12
                  have he12 : e = gvE F := he12
                  clear hy
                  subst he12
                  refine ⟨rfl, HB11.out.trans hb12, ?_⟩
                  rw [HE3.out]; rfl
                | ok yr =>
                  obtain ⟨y, r7⟩ := yr
                  have HE3 : Hid (V = .ok (⟨3, ⟨[], [], 0⟩, o.op, x, y, t.off⟩, r7)) := Lib.hid (by rw [HE2.out]; rw [HD10.out] at hy; rw [hy])
                  refine (term_any X v ts q10 f _ true HR11.out).mono ?_
                  rintro e w12 ⟨hb12, he12⟩
                  rw [hy] at he12
                  obtain ⟨u12, q12, hu12, he12, hR12, hd12⟩ := he12
                  have hu12 : u12 = trmA y := hu12
                  clear hy
                  subst hu12
                  subst he12
                  simp only [trmA]
                  have k12 : Kt (fun t => t ≠ 90) w11 w12 := Kt.bes hb12 HR11.out.row (by simp)
                  have hp12 := k12 _ _ _ HP11.out (by decide)
                  have HP12 := Lib.hid hp12
                  have HQ12 := Lib.hid (k12 _ _ _ HQ11.out (by decide))
                  have HB12 := Lib.hid (HB11.out.trans hb12)
                  have HR12 := Lib.hid hR12
                  have HD12 := Lib.hid hd12
                  obtain ⟨p0, p1, p2, p3, p4, p5, p6, p7, p8, p9, p10, p11, p12, p13, pf0, pf1, pf2, pf3, pf4, pf5, pf6, pf7, pf8, pf9, pf10, pf11, pf12, pf13⟩ := row101 hp12
                  clear k12 hp12 hb12 hR12 hd12 HP11 HQ11 HB11 HR11
                  go_upto_region 10 with fail
                  obtain ⟨w13, hw13⟩ : ∃ w13, w13 = ((((w12.setCell ⟨d, 9, none⟩ (.int .i64 (y.kind : Int))).setCell ⟨d, 10, none⟩ (.int .i64 y.int)).setCell ⟨d, 11, none⟩ (.string ⟨y.text.toArray⟩)).setCell ⟨d, 12, none⟩ (.int .i64 (y.off : Int))) := ⟨_, rfl⟩
                  rw [← hw13]
                  have hp13 : w13.heap[d]? = some (.cells #[.int .i64 3, .string { data := #[] }, .slice none 0 0, .int .i64 0, .int .i64 (o.op : Int), .int .i64 (x.kind : Int), .int .i64 x.int, .string ⟨x.text.toArray⟩, .int .i64 (x.off : Int), .int .i64 (y.kind : Int), .int .i64 y.int, .string ⟨y.text.toArray⟩, .int .i64 (y.off : Int), .int .i64 (t.off : Int)] 101) := by rw [hw13]; exact lit_right HP12.out
                  have HB13 : Hid (Bes X w w13) := Lib.hid (by rw [hw13]; exact (((HB12.out.set (p := ⟨d, 9, none⟩) (.inr (Nat.le_of_lt HD0.out.1)) _).set (p := ⟨d, 10, none⟩) (.inr (Nat.le_of_lt HD0.out.1)) _).set (p := ⟨d, 11, none⟩) (.inr (Nat.le_of_lt HD0.out.1)) _).set (p := ⟨d, 12, none⟩) (.inr (Nat.le_of_lt HD0.out.1)) _)
                  have o13 : ∀ k, k ≠ d → w13.heap[k]? = w12.heap[k]? := fun k hk => by rw [hw13, Below.heap_setCell _ _ _ _ hk, Below.heap_setCell _ _ _ _ hk, Below.heap_setCell _ _ _ _ hk, Below.heap_setCell _ _ _ _ hk]
                  have q13 : w13.heap[w.heap.size]? = some (.cells #[.int .i64 0, .string { data := #[] }, .slice none 0 0, .int .i64 0, .int .i64 0, .int .i64 0, .int .i64 0, .string { data := #[] }, .int .i64 0, .int .i64 0, .int .i64 0, .string { data := #[] }, .int .i64 0, .int .i64 0] 101) := by rw [o13 _ HD0.out.2.2]; exact HQ12.out
                  have HX13 : Hid (w13.heap[X]? = w12.heap[X]?) := Lib.hid (o13 _ (Ne.symm HD0.out.2.1))
                  clear p0 p1 p2 p3 p4 p5 p6 p7 p8 p9 p10 p11 p12 p13 pf0 pf1 pf2 pf3 pf4 pf5 pf6 pf7 pf8 pf9 pf10 pf11 pf12 pf13
                  clear hw13 o13
                  obtain ⟨p0, p1, p2, p3, p4, p5, p6, p7, p8, p9, p10, p11, p12, p13, pf0, pf1, pf2, pf3, pf4, pf5, pf6, pf7, pf8, pf9, pf10, pf11, pf12, pf13⟩ := row101 hp13
                  obtain ⟨z0, z1, z2, z3, z4, z5, z6, z7, z8, z9, z10, z11, z12, z13, zf0, zf1, zf2, zf3, zf4, zf5, zf6, zf7, zf8, zf9, zf10, zf11, zf12, zf13⟩ := row101 q13
                  have HH := Lib.hid (lit_set (x0 := .int .i64 3) (x1 := .string { data := #[] }) (x2 := .slice none 0 0) (x3 := .int .i64 0) (x4 := .int .i64 (o.op : Int)) (x5 := .int .i64 (x.kind : Int)) (x6 := .int .i64 x.int) (x7 := .string ⟨x.text.toArray⟩) (x8 := .int .i64 (x.off : Int)) (x9 := .int .i64 (y.kind : Int)) (x10 := .int .i64 y.int) (x11 := .string ⟨y.text.toArray⟩) (x12 := .int .i64 (y.off : Int)) (x13 := .int .i64 (t.off : Int)) q13)
                  have HBZ := Lib.hid (lit_bes (x0 := .int .i64 3) (x1 := .string { data := #[] }) (x2 := .slice none 0 0) (x3 := .int .i64 0) (x4 := .int .i64 (o.op : Int)) (x5 := .int .i64 (x.kind : Int)) (x6 := .int .i64 x.int) (x7 := .string ⟨x.text.toArray⟩) (x8 := .int .i64 (x.off : Int)) (x9 := .int .i64 (y.kind : Int)) (x10 := .int .i64 y.int) (x11 := .string ⟨y.text.toArray⟩) (x12 := .int .i64 (y.off : Int)) (x13 := .int .i64 (t.off : Int)) HB13.out (Nat.le_refl _))
                  have HRZ := Lib.hid (hR.turn HBZ.out (q := q12) (by rw [lit_oth (by omega), HX13.out]; exact HR12.out.row) HR12.out.le)
                  clear hp13 q13
                  go_wp2
                  refine bodyPost_ret (results_cell_row rfl _ _ w.heap.size 101 #[.int .i64 3, .string { data := #[] }, .slice none 0 0, .int .i64 0, .int .i64 (o.op : Int), .int .i64 (x.kind : Int), .int .i64 x.int, .string ⟨x.text.toArray⟩, .int .i64 (x.off : Int), .int .i64 (y.kind : Int), .int .i64 y.int, .string ⟨y.text.toArray⟩, .int .i64 (y.off : Int), .int .i64 (t.off : Int)] (0, 0) _ rfl HH.out Tryz.underlying101 rfl Tryz.size101) rfl ?_
                  refine ⟨HBZ.out, ?_⟩
                  rw [HE3.out]
                  exact ⟨_, q12, ⟨.slice none 0 0, rfl, ⟨rfl, .inl ⟨rfl, rfl⟩⟩⟩, rfl, HRZ.out, HD12.out⟩
            · go_simp
              have HRa := Lib.hid (HRd.out.alloc (.cells #[.int .i64 0, .string { data := #[] }, .slice none 0 0, .int .i64 0, .int .i64 0, .int .i64 0, .int .i64 0, .string { data := #[] }, .int .i64 0, .int .i64 0, .int .i64 0, .string { data := #[] }, .int .i64 0, .int .i64 0] 101))
              have HBa := Lib.hid (HBd.out.alloc (.cells #[.int .i64 0, .string { data := #[] }, .slice none 0 0, .int .i64 0, .int .i64 0, .int .i64 0, .int .i64 0, .string { data := #[] }, .int .i64 0, .int .i64 0, .int .i64 0, .string { data := #[] }, .int .i64 0, .int .i64 0] 101))
              have ka : Kt (fun _ => True) w4.drew (w4.drew.alloc (.cells #[.int .i64 0, .string { data := #[] }, .slice none 0 0, .int .i64 0, .int .i64 0, .int .i64 0, .int .i64 0, .string { data := #[] }, .int .i64 0, .int .i64 0, .int .i64 0, .string { data := #[] }, .int .i64 0, .int .i64 0] 101)) := Kt.alloc w4.drew _
              have HQa := Lib.hid (ka _ _ _ HQd.out trivial)
              have HTa := Lib.hid (ka _ _ _ HTd.out trivial)
              have qa : (w4.drew.alloc (.cells #[.int .i64 0, .string { data := #[] }, .slice none 0 0, .int .i64 0, .int .i64 0, .int .i64 0, .int .i64 0, .string { data := #[] }, .int .i64 0, .int .i64 0, .int .i64 0, .string { data := #[] }, .int .i64 0, .int .i64 0] 101)).heap[w4.heap.size]? = some (.cells #[.int .i64 0, .string { data := #[] }, .slice none 0 0, .int .i64 0, .int .i64 0, .int .i64 0, .int .i64 0, .string { data := #[] }, .int .i64 0, .int .i64 0, .int .i64 0, .string { data := #[] }, .int .i64 0, .int .i64 0] 101) := heap_alloc_new w4.drew _
              have hSa := (row6 HTa.out).2.2.2.2.1
              have h1 := (Array.getElem?_eq_some_iff.1 HQd.out).1
              have h2 := HRd.out.lt
              rw [drew_heap] at h1 h2
              obtain ⟨d, hd0⟩ : ∃ d, d = w4.heap.size := ⟨_, rfl⟩
              rw [← hd0] at qa ⊢
              have HD0 : Hid (w.heap.size < d ∧ d ≠ X ∧ w.heap.size ≠ d) := Lib.hid (by omega)
              have HQAA := Lib.hid qa
              clear ka qa h1 h2 hd0
              refine hK' _ _ (fun _ => hSa) ?_
              clear hK' K'
              try simp only [Act.put, List.setIfInBounds_toArray, List.set_cons_zero, List.set_cons_succ]
              refine wpAnyT_one 1 rfl (by kernel_rfl) (fun K' hK' => ?_)
              go_simp
              go_at_call 47
              refine (term_any X v ts a f _ true HRa.out).mono ?_
              rintro e w8 ⟨hb7, he7⟩
              rw [HRES.out] at he7
              obtain ⟨u7, q7, hu7, he7, hR7, hd7⟩ := he7
              have hu7 : u7 = trmA x := hu7
              subst hu7
              subst he7
              simp only [trmA]
              have k7 : Kt (fun t => t ≠ 90) (w4.drew.alloc (.cells #[.int .i64 0, .string { data := #[] }, .slice none 0 0, .int .i64 0, .int .i64 0, .int .i64 0, .int .i64 0, .string { data := #[] }, .int .i64 0, .int .i64 0, .int .i64 0, .string { data := #[] }, .int .i64 0, .int .i64 0] 101)) w8 := Kt.bes hb7 HRa.out.row (by simp)
              have hS7 := (row6 (k7 _ _ _ HTa.out (by decide))).2.2.2.2.1
              have HQ8 := Lib.hid (k7 _ _ _ HQa.out (by decide))
              have q8 := k7 _ _ _ HQAA.out (by decide)
              have HB8 := Lib.hid (HBa.out.trans hb7)
              have HR8 := Lib.hid hR7
              have HD7 := Lib.hid hd7
              clear hb7 hR7 hd7 k7 hS hSa r0 r1 r2 r3 r4 r5 f0 f1 f2 f3 f4 f5 HRa HBa HQa HTa HQAA
              refine hK' _ _ (fun _ => hS7) ?_
              clear hK' K'
              try simp only [Act.put, List.setIfInBounds_toArray, List.set_cons_zero, List.set_cons_succ]
              refine wpAnyT_tk 4 _ ?_ rfl rfl (by kernel_rfl) (fun _ _ _ h => h) (by assumption) (Or.inl ⟨by rfl, fun x hx => ?_⟩) ?_
              rotate_left
              · have hx2 : x.cell? ⟨b, 4, none⟩ = some (.int .i64 (t.off : Int)) := hx
                clear hx
                go_simp
                try with_reducible rfl
              try simp only [Act.put, List.setIfInBounds_toArray, List.set_cons_zero, List.set_cons_succ]
              clear hS7
              obtain ⟨p0, p1, p2, p3, p4, p5, p6, p7, p8, p9, p10, p11, p12, p13, pf0, pf1, pf2, pf3, pf4, pf5, pf6, pf7, pf8, pf9, pf10, pf11, pf12, pf13⟩ := row101 q8
              refine wpAnyT_one 6 rfl (by kernel_rfl) (fun K' hK' => ?_)
              go_simp
              refine hK' _ _ (fun h => absurd rfl h) ?_
              clear hK' K'
              try simp only [Act.put, List.setIfInBounds_toArray, List.set_cons_zero, List.set_cons_succ]
              refine wpAnyT_done (by kernel_rfl) ?_ _
              clear p0 p1 p2 p3 p4 p5 p6 p7 p8 p9 p10 p11 p12 p13 pf0 pf1 pf2 pf3 pf4 pf5 pf6 pf7 pf8 pf9 pf10 pf11 pf12 pf13
              obtain ⟨w9, hw9⟩ : ∃ w9, w9 = ((((((((((((((w8.setCell ⟨d, 0, none⟩ (.int .i64 3)).setCell ⟨d, 1, none⟩ (.string { data := #[] })).setCell ⟨d, 2, none⟩ (.slice none 0 0)).setCell ⟨d, 3, none⟩ (.int .i64 0)).setCell ⟨d, 4, none⟩ (.int .i64 0)).setCell ⟨d, 5, none⟩ (.int .i64 (x.kind : Int))).setCell ⟨d, 6, none⟩ (.int .i64 x.int)).setCell ⟨d, 7, none⟩ (.string ⟨x.text.toArray⟩)).setCell ⟨d, 8, none⟩ (.int .i64 (x.off : Int))).setCell ⟨d, 9, none⟩ (.int .i64 0)).setCell ⟨d, 10, none⟩ (.int .i64 0)).setCell ⟨d, 11, none⟩ (.string { data := #[] })).setCell ⟨d, 12, none⟩ (.int .i64 0)).setCell ⟨d, 13, none⟩ (.int .i64 (t.off : Int))) := ⟨_, rfl⟩
              rw [← hw9]
              have q9 : w9.heap[d]? = some (.cells #[.int .i64 3, .string { data := #[] }, .slice none 0 0, .int .i64 0, .int .i64 0, .int .i64 (x.kind : Int), .int .i64 x.int, .string ⟨x.text.toArray⟩, .int .i64 (x.off : Int), .int .i64 0, .int .i64 0, .string { data := #[] }, .int .i64 0, .int .i64 (t.off : Int)] 101) := by rw [hw9]; exact lit_set (x0 := .int .i64 3) (x1 := .string { data := #[] }) (x2 := .slice none 0 0) (x3 := .int .i64 0) (x4 := .int .i64 0) (x5 := .int .i64 (x.kind : Int)) (x6 := .int .i64 x.int) (x7 := .string ⟨x.text.toArray⟩) (x8 := .int .i64 (x.off : Int)) (x9 := .int .i64 0) (x10 := .int .i64 0) (x11 := .string { data := #[] }) (x12 := .int .i64 0) (x13 := .int .i64 (t.off : Int)) q8
              have HB9 : Hid (Bes X w w9) := Lib.hid (by rw [hw9]; exact lit_bes (x0 := .int .i64 3) (x1 := .string { data := #[] }) (x2 := .slice none 0 0) (x3 := .int .i64 0) (x4 := .int .i64 0) (x5 := .int .i64 (x.kind : Int)) (x6 := .int .i64 x.int) (x7 := .string ⟨x.text.toArray⟩) (x8 := .int .i64 (x.off : Int)) (x9 := .int .i64 0) (x10 := .int .i64 0) (x11 := .string { data := #[] }) (x12 := .int .i64 0) (x13 := .int .i64 (t.off : Int)) HB8.out (Nat.le_of_lt HD0.out.1))
              have HQ9 : Hid (w9.heap[w.heap.size]? = some (.cells #[.int .i64 0, .string { data := #[] }, .slice none 0 0, .int .i64 0, .int .i64 0, .int .i64 0, .int .i64 0, .string { data := #[] }, .int .i64 0, .int .i64 0, .int .i64 0, .string { data := #[] }, .int .i64 0, .int .i64 0] 101)) := Lib.hid (by rw [hw9, lit_oth HD0.out.2.2]; exact HQ8.out)
              have HR9 : Hid (Rdr w9 X v ts q7 f) := Lib.hid (HR8.out.kt (T := fun t => t ≠ 101) (by rw [hw9]; exact lit_kt (x0 := .int .i64 3) (x1 := .string { data := #[] }) (x2 := .slice none 0 0) (x3 := .int .i64 0) (x4 := .int .i64 0) (x5 := .int .i64 (x.kind : Int)) (x6 := .int .i64 x.int) (x7 := .string ⟨x.text.toArray⟩) (x8 := .int .i64 (x.off : Int)) (x9 := .int .i64 0) (x10 := .int .i64 0) (x11 := .string { data := #[] }) (x12 := .int .i64 0) (x13 := .int .i64 (t.off : Int)) q8 (by simp)) (by decide) (by decide))
              have HP9 := Lib.hid q9
              clear hw9 q9 q8 HB8 HQ8 HR8
              go_wp2_with fail
              cases ho : Gr.takeP f 11 (ts.drop q7) with
              | error F =>
                have HE2 : Hid (V = .error F) := Lib.hid (by rw [HE.out]; rw [HD7.out] at ho; rw [ho])
                refine (take_any X v ts q7 f _ 11 HR9.out).mono ?_
                rintro e w10 ⟨hb10, he10⟩
                rw [ho] at he10
                have he10 : e = gvE F := he10
                clear ho
                subst he10
                refine ⟨rfl, HB9.out.trans hb10, ?_⟩
                rw [HE2.out]; rfl
              | ok orr =>
                obtain ⟨o, r8⟩ := orr
                have HE2 : Hid (V = (match Gr.termP f true r8 with
                        | .error e => .error e
                        | .ok (y, r3) => .ok (⟨3, ⟨[], [], 0⟩, o.op, x, y, t.off⟩, r3))) := Lib.hid (by rw [HE.out]; rw [HD7.out] at ho; rw [ho])
                refine (take_any X v ts q7 f _ 11 HR9.out).mono ?_
                rintro e w10 ⟨hb10, he10⟩
                rw [ho] at he10
                obtain ⟨u10, q10, hu10, he10, hR10, hd10⟩ := he10
                have hu10 : u10 = tkA o := hu10
                clear ho
                subst hu10
                subst he10
                simp only [tkA]
                have k10 : Kt (fun t => t ≠ 90) w9 w10 := Kt.bes hb10 HR9.out.row (by simp)
                have hp10 := k10 _ _ _ HP9.out (by decide)
                have HP10 := Lib.hid hp10
                have HQ10 := Lib.hid (k10 _ _ _ HQ9.out (by decide))
                have HB10 := Lib.hid (HB9.out.trans hb10)
                have HR10 := Lib.hid hR10
                have HD10 := Lib.hid hd10
                obtain ⟨p0, p1, p2, p3, p4, p5, p6, p7, p8, p9, p10, p11, p12, p13, pf0, pf1, pf2, pf3, pf4, pf5, pf6, pf7, pf8, pf9, pf10, pf11, pf12, pf13⟩ := row101 hp10
                clear k10 hp10 hb10 hR10 hd10 HP9 HQ9 HB9 HR9
                go_upto_region 9 with fail
                obtain ⟨w11, hw11⟩ : ∃ w11, w11 = w10.setCell ⟨d, 4, none⟩ (.int .i64 (o.op : Int)) := ⟨_, rfl⟩
                rw [← hw11]
                have HP11 : Hid (w11.heap[d]? = some (.cells #[.int .i64 3, .string { data := #[] }, .slice none 0 0, .int .i64 0, .int .i64 (o.op : Int), .int .i64 (x.kind : Int), .int .i64 x.int, .string ⟨x.text.toArray⟩, .int .i64 (x.off : Int), .int .i64 0, .int .i64 0, .string { data := #[] }, .int .i64 0, .int .i64 (t.off : Int)] 101)) := Lib.hid (by rw [hw11]; exact lit_op HP10.out)
                have HB11 : Hid (Bes X w w11) := Lib.hid (by rw [hw11]; exact HB10.out.set (p := ⟨d, 4, none⟩) (.inr (Nat.le_of_lt HD0.out.1)) _)
                have HQ11 : Hid (w11.heap[w.heap.size]? = some (.cells #[.int .i64 0, .string { data := #[] }, .slice none 0 0, .int .i64 0, .int .i64 0, .int .i64 0, .int .i64 0, .string { data := #[] }, .int .i64 0, .int .i64 0, .int .i64 0, .string { data := #[] }, .int .i64 0, .int .i64 0] 101)) := Lib.hid (by rw [hw11, Below.heap_setCell _ _ _ _ HD0.out.2.2]; exact HQ10.out)
                have HR11 : Hid (Rdr w11 X v ts q10 f) := Lib.hid (HR10.out.kt (T := fun t => t ≠ 101) (by rw [hw11]; exact Kt.set (p := ⟨d, 4, none⟩) HP10.out (by simp)) (by decide) (by decide))
                clear p0 p1 p2 p3 p4 p5 p6 p7 p8 p9 p10 p11 p12 p13 pf0 pf1 pf2 pf3 pf4 pf5 pf6 pf7 pf8 pf9 pf10 pf11 pf12 pf13
                clear hw11 HP10 HB10 HQ10 HR10
                go_wp2_with fail
                cases hy : Gr.termP f true (ts.drop q10) with
                | error F =>
                  have HE3 : Hid (V = .error F) := Lib.hid (by rw [HE2.out]; rw [HD10.out] at hy; rw [hy])
                  refine (term_any X v ts q10 f _ true HR11.out).mono ?_
                  rintro e w12 ⟨hb12, he12⟩
                  rw [hy] at he12
                  have he12 : e = gvE F := he12
                  clear hy
                  subst he12
                  refine ⟨rfl, HB11.out.trans hb12, ?_⟩
                  rw [HE3.out]; rfl
                | ok yr =>
                  obtain ⟨y, r7⟩ := yr
                  have HE3 : Hid (V = .ok (⟨3, ⟨[], [], 0⟩, o.op, x, y, t.off⟩, r7)) := Lib.hid (by rw [HE2.out]; rw [HD10.out] at hy; rw [hy])
                  refine (term_any X v ts q10 f _ true HR11.out).mono ?_
                  rintro e w12 ⟨hb12, he12⟩
                  rw [hy] at he12
                  obtain ⟨u12, q12, hu12, he12, hR12, hd12⟩ := he12
                  have hu12 : u12 = trmA y := hu12
                  clear hy
                  subst hu12
                  subst he12
                  simp only [trmA]
                  have k12 : Kt (fun t => t ≠ 90) w11 w12 := Kt.bes hb12 HR11.out.row (by simp)
                  have hp12 := k12 _ _ _ HP11.out (by decide)
                  have HP12 := Lib.hid hp12
                  have HQ12 := Lib.hid (k12 _ _ _ HQ11.out (by decide))
                  have HB12 := Lib.hid (HB11.out.trans hb12)
                  have HR12 := Lib.hid hR12
                  have HD12 := Lib.hid hd12
                  obtain ⟨p0, p1, p2, p3, p4, p5, p6, p7, p8, p9, p10, p11, p12, p13, pf0, pf1, pf2, pf3, pf4, pf5, pf6, pf7, pf8, pf9, pf10, pf11, pf12, pf13⟩ := row101 hp12
                  clear k12 hp12 hb12 hR12 hd12 HP11 HQ11 HB11 HR11
                  go_upto_region 10 with fail
                  obtain ⟨w13, hw13⟩ : ∃ w13, w13 = ((((w12.setCell ⟨d, 9, none⟩ (.int .i64 (y.kind : Int))).setCell ⟨d, 10, none⟩ (.int .i64 y.int)).setCell ⟨d, 11, none⟩ (.string ⟨y.text.toArray⟩)).setCell ⟨d, 12, none⟩ (.int .i64 (y.off : Int))) := ⟨_, rfl⟩
                  rw [← hw13]
                  have hp13 : w13.heap[d]? = some (.cells #[.int .i64 3, .string { data := #[] }, .slice none 0 0, .int .i64 0, .int .i64 (o.op : Int), .int .i64 (x.kind : Int), .int .i64 x.int, .string ⟨x.text.toArray⟩, .int .i64 (x.off : Int), .int .i64 (y.kind : Int), .int .i64 y.int, .string ⟨y.text.toArray⟩, .int .i64 (y.off : Int), .int .i64 (t.off : Int)] 101) := by rw [hw13]; exact lit_right HP12.out
                  have HB13 : Hid (Bes X w w13) := Lib.hid (by rw [hw13]; exact (((HB12.out.set (p := ⟨d, 9, none⟩) (.inr (Nat.le_of_lt HD0.out.1)) _).set (p := ⟨d, 10, none⟩) (.inr (Nat.le_of_lt HD0.out.1)) _).set (p := ⟨d, 11, none⟩) (.inr (Nat.le_of_lt HD0.out.1)) _).set (p := ⟨d, 12, none⟩) (.inr (Nat.le_of_lt HD0.out.1)) _)
                  have o13 : ∀ k, k ≠ d → w13.heap[k]? = w12.heap[k]? := fun k hk => by rw [hw13, Below.heap_setCell _ _ _ _ hk, Below.heap_setCell _ _ _ _ hk, Below.heap_setCell _ _ _ _ hk, Below.heap_setCell _ _ _ _ hk]
                  have q13 : w13.heap[w.heap.size]? = some (.cells #[.int .i64 0, .string { data := #[] }, .slice none 0 0, .int .i64 0, .int .i64 0, .int .i64 0, .int .i64 0, .string { data := #[] }, .int .i64 0, .int .i64 0, .int .i64 0, .string { data := #[] }, .int .i64 0, .int .i64 0] 101) := by rw [o13 _ HD0.out.2.2]; exact HQ12.out
                  have HX13 : Hid (w13.heap[X]? = w12.heap[X]?) := Lib.hid (o13 _ (Ne.symm HD0.out.2.1))
                  clear p0 p1 p2 p3 p4 p5 p6 p7 p8 p9 p10 p11 p12 p13 pf0 pf1 pf2 pf3 pf4 pf5 pf6 pf7 pf8 pf9 pf10 pf11 pf12 pf13
                  clear hw13 o13
                  obtain ⟨p0, p1, p2, p3, p4, p5, p6, p7, p8, p9, p10, p11, p12, p13, pf0, pf1, pf2, pf3, pf4, pf5, pf6, pf7, pf8, pf9, pf10, pf11, pf12, pf13⟩ := row101 hp13
                  obtain ⟨z0, z1, z2, z3, z4, z5, z6, z7, z8, z9, z10, z11, z12, z13, zf0, zf1, zf2, zf3, zf4, zf5, zf6, zf7, zf8, zf9, zf10, zf11, zf12, zf13⟩ := row101 q13
                  have HH := Lib.hid (lit_set (x0 := .int .i64 3) (x1 := .string { data := #[] }) (x2 := .slice none 0 0) (x3 := .int .i64 0) (x4 := .int .i64 (o.op : Int)) (x5 := .int .i64 (x.kind : Int)) (x6 := .int .i64 x.int) (x7 := .string ⟨x.text.toArray⟩) (x8 := .int .i64 (x.off : Int)) (x9 := .int .i64 (y.kind : Int)) (x10 := .int .i64 y.int) (x11 := .string ⟨y.text.toArray⟩) (x12 := .int .i64 (y.off : Int)) (x13 := .int .i64 (t.off : Int)) q13)
                  have HBZ := Lib.hid (lit_bes (x0 := .int .i64 3) (x1 := .string { data := #[] }) (x2 := .slice none 0 0) (x3 := .int .i64 0) (x4 := .int .i64 (o.op : Int)) (x5 := .int .i64 (x.kind : Int)) (x6 := .int .i64 x.int) (x7 := .string ⟨x.text.toArray⟩) (x8 := .int .i64 (x.off : Int)) (x9 := .int .i64 (y.kind : Int)) (x10 := .int .i64 y.int) (x11 := .string ⟨y.text.toArray⟩) (x12 := .int .i64 (y.off : Int)) (x13 := .int .i64 (t.off : Int)) HB13.out (Nat.le_refl _))
                  have HRZ := Lib.hid (hR.turn HBZ.out (q := q12) (by rw [lit_oth (by omega), HX13.out]; exact HR12.out.row) HR12.out.le)
                  clear hp13 q13
                  go_wp2
                  refine bodyPost_ret (results_cell_row rfl _ _ w.heap.size 101 #[.int .i64 3, .string { data := #[] }, .slice none 0 0, .int .i64 0, .int .i64 (o.op : Int), .int .i64 (x.kind : Int), .int .i64 x.int, .string ⟨x.text.toArray⟩, .int .i64 (x.off : Int), .int .i64 (y.kind : Int), .int .i64 y.int, .string ⟨y.text.toArray⟩, .int .i64 (y.off : Int), .int .i64 (t.off : Int)] (0, 0) _ rfl HH.out Tryz.underlying101 rfl Tryz.size101) rfl ?_
                  refine ⟨HBZ.out, ?_⟩
                  rw [HE3.out]
                  exact ⟨_, q12, ⟨.slice none 0 0, rfl, ⟨rfl, .inl ⟨rfl, rfl⟩⟩⟩, rfl, HRZ.out, HD12.out⟩
      · have e1 : ((t.kind : Int) == 1) = false := by simp; omega
        have HK : Hid (V = (match Gr.termP f true (t :: r) with
            | .error e => .error e
            | .ok (x, r1) => match Gr.takeP f 11 r1 with
              | .error e => .error e
              | .ok (o, r2) => match Gr.termP f true r2 with
                | .error e => .error e
                | .ok (y, r3) => .ok (⟨3, ⟨[], [], 0⟩, o.op, x, y, t.off⟩, r3))) := Lib.hid (by rw [HV.out]; simp [Gr.litP, h10, h1]; rfl)
        clear h1 h10
        go_upto_region 7 with fail
        have hbd : Below w3.heap.size w3 w3.drew := drew_below _ _
        have HRd := Lib.hid (HR3.out.below hbd)
        have HBd := Lib.hid (HB3b.out.trans (Bes.of hbd))
        have HQd : Hid (w3.drew.heap[w.heap.size]? = some (.cells #[.int .i64 0, .string { data := #[] }, .slice none 0 0, .int .i64 0, .int .i64 0, .int .i64 0, .int .i64 0, .string { data := #[] }, .int .i64 0, .int .i64 0, .int .i64 0, .string { data := #[] }, .int .i64 0, .int .i64 0] 101)) := Lib.hid HQ3.out
        have HTd : Hid (w3.drew.heap[b]? = some (.cells #[.int .i64 (t.kind : Int), .string { data := t.text.toArray }, .int .i64 t.int, .int .i64 (t.op : Int), .int .i64 (t.off : Int), .int .i64 (t.fin : Int)] 62)) := Lib.hid HT3.out
        clear hbd
        cases hx : Gr.termP f true (ts.drop a) with
        | error F =>
          have HE : Hid (V = .error F) := Lib.hid (by rw [HK.out]; rw [HD.out] at hx; rw [hx])
          have HRES := Lib.hid hx
          clear hx
          refine wp_region_T (fun x => x.cell? ⟨b, 4, none⟩ = some (.int .i64 (t.off : Int))) 6 (by kernel_rfl) ?_
          have hS : w3.drew.cell? ⟨b, 4, none⟩ = some (.int .i64 (t.off : Int)) := r4
          refine wpAnyT_tk 0 _ ?_ rfl rfl (by kernel_rfl) (fun _ _ _ h => h) (by assumption) (Or.inl ⟨by rfl, fun x hx => ?_⟩) ?_
          rotate_left
          · have hx2 : x.cell? ⟨b, 4, none⟩ = some (.int .i64 (t.off : Int)) := hx
            clear hx
            go_simp
            try with_reducible rfl
          try simp only [Act.put, List.setIfInBounds_toArray, List.set_cons_zero, List.set_cons_succ]
          refine wpAnyT_tk 2 _ ?_ rfl rfl (by kernel_rfl) (fun _ _ _ h => h) (by assumption) (Or.inl ⟨by rfl, fun x hx => ?_⟩) ?_
          rotate_left
          · have hx2 : x.cell? ⟨b, 4, none⟩ = some (.int .i64 (t.off : Int)) := hx
            clear hx
            go_simp
            try with_reducible rfl
          try simp only [Act.put, List.setIfInBounds_toArray, List.set_cons_zero, List.set_cons_succ]
          refine wpAnyT_tk 3 _ ?_ rfl rfl (by kernel_rfl) (fun _ _ _ h => h) (by assumption) (Or.inl ⟨by rfl, fun x hx => ?_⟩) ?_
          rotate_left
          · have hx2 : x.cell? ⟨b, 4, none⟩ = some (.int .i64 (t.off : Int)) := hx
            clear hx
            go_simp
            try with_reducible rfl
          try simp only [Act.put, List.setIfInBounds_toArray, List.set_cons_zero, List.set_cons_succ]
          refine wpAnyT_two 1 5 rfl rfl (by kernel_rfl) (fun K' hK' => ?_) (fun K' hK' => ?_)
          · go_simp
            go_at_call 47
            refine (term_any X v ts a f _ true HRd.out).mono ?_
            rintro e w7 ⟨hb7, he7⟩
            rw [HRES.out] at he7
            have he7 : e = gvE F := he7
            subst he7
            refine ⟨rfl, HBd.out.trans hb7, ?_⟩
            rw [HE.out]; rfl
          · go_simp
            have hSa : (w3.drew.alloc (.cells #[.int .i64 0, .string { data := #[] }, .slice none 0 0, .int .i64 0, .int .i64 0, .int .i64 0, .int .i64 0, .string { data := #[] }, .int .i64 0, .int .i64 0, .int .i64 0, .string { data := #[] }, .int .i64 0, .int .i64 0] 101)).cell? ⟨b, 4, none⟩ = some (.int .i64 (t.off : Int)) := (row6 (Kt.alloc (T := fun _ => True) w3.drew _ _ _ _ HTd.out trivial)).2.2.2.2.1
            refine hK' _ _ (fun _ => hSa) ?_
            clear hK' K'
            try simp only [Act.put, List.setIfInBounds_toArray, List.set_cons_zero, List.set_cons_succ]
            refine wpAnyT_one 1 rfl (by kernel_rfl) (fun K' hK' => ?_)
            go_simp
            go_at_call 47
            refine (term_any X v ts a f _ true (HRd.out.alloc (.cells #[.int .i64 0, .string { data := #[] }, .slice none 0 0, .int .i64 0, .int .i64 0, .int .i64 0, .int .i64 0, .string { data := #[] }, .int .i64 0, .int .i64 0, .int .i64 0, .string { data := #[] }, .int .i64 0, .int .i64 0] 101))).mono ?_
            rintro e w7 ⟨hb7, he7⟩
            rw [HRES.out] at he7
            have he7 : e = gvE F := he7
            subst he7
            refine ⟨rfl, (HBd.out.alloc (.cells #[.int .i64 0, .string { data := #[] }, .slice none 0 0, .int .i64 0, .int .i64 0, .int .i64 0, .int .i64 0, .string { data := #[] }, .int .i64 0, .int .i64 0, .int .i64 0, .string { data := #[] }, .int .i64 0, .int .i64 0] 101)).trans hb7, ?_⟩
            rw [HE.out]; rfl
        | ok xr =>
          obtain ⟨x, r9⟩ := xr
          have HE : Hid (V = (match Gr.takeP f 11 r9 with
                  | .error e => .error e
                  | .ok (o, r2) => match Gr.termP f true r2 with
                    | .error e => .error e
                    | .ok (y, r3) => .ok (⟨3, ⟨[], [], 0⟩, o.op, x, y, t.off⟩, r3))) := Lib.hid (by rw [HK.out]; rw [HD.out] at hx; rw [hx])
          have HRES := Lib.hid hx
          clear hx
          refine wp_region_T (fun x => x.cell? ⟨b, 4, none⟩ = some (.int .i64 (t.off : Int))) 6 (by kernel_rfl) ?_
          have hS : w3.drew.cell? ⟨b, 4, none⟩ = some (.int .i64 (t.off : Int)) := r4
          refine wpAnyT_tk 0 _ ?_ rfl rfl (by kernel_rfl) (fun _ _ _ h => h) (by assumption) (Or.inl ⟨by rfl, fun x hx => ?_⟩) ?_
          rotate_left
          · have hx2 : x.cell? ⟨b, 4, none⟩ = some (.int .i64 (t.off : Int)) := hx
            clear hx
            go_simp
            try with_reducible rfl
          try simp only [Act.put, List.setIfInBounds_toArray, List.set_cons_zero, List.set_cons_succ]
          refine wpAnyT_tk 2 _ ?_ rfl rfl (by kernel_rfl) (fun _ _ _ h => h) (by assumption) (Or.inl ⟨by rfl, fun x hx => ?_⟩) ?_
          rotate_left
          · have hx2 : x.cell? ⟨b, 4, none⟩ = some (.int .i64 (t.off : Int)) := hx
            clear hx
            go_simp
            try with_reducible rfl
          try simp only [Act.put, List.setIfInBounds_toArray, List.set_cons_zero, List.set_cons_succ]
          refine wpAnyT_tk 3 _ ?_ rfl rfl (by kernel_rfl) (fun _ _ _ h => h) (by assumption) (Or.inl ⟨by rfl, fun x hx => ?_⟩) ?_
          rotate_left
          · have hx2 : x.cell? ⟨b, 4, none⟩ = some (.int .i64 (t.off : Int)) := hx
            clear hx
            go_simp
            try with_reducible rfl
          try simp only [Act.put, List.setIfInBounds_toArray, List.set_cons_zero, List.set_cons_succ]
          refine wpAnyT_two 1 5 rfl rfl (by kernel_rfl) (fun K' hK' => ?_) (fun K' hK' => ?_)
          · go_simp
            go_at_call 47
            refine (term_any X v ts a f _ true HRd.out).mono ?_
            rintro e w7 ⟨hb7, he7⟩
            rw [HRES.out] at he7
            obtain ⟨u7, q7, hu7, he7, hR7, hd7⟩ := he7
            have hu7 : u7 = trmA x := hu7
            subst hu7
            subst he7
            simp only [trmA]
            have k7 : Kt (fun t => t ≠ 90) w3.drew w7 := Kt.bes hb7 HRd.out.row (by simp)
            have hS7 := (row6 (k7 _ _ _ HTd.out (by decide))).2.2.2.2.1
            have HQ7 := Lib.hid (k7 _ _ _ HQd.out (by decide))
            have HB7 := Lib.hid (HBd.out.trans hb7)
            have HR7 := Lib.hid hR7
            have HD7 := Lib.hid hd7
            have hS8 : (w7.alloc (.cells #[.int .i64 0, .string { data := #[] }, .slice none 0 0, .int .i64 0, .int .i64 0, .int .i64 0, .int .i64 0, .string { data := #[] }, .int .i64 0, .int .i64 0, .int .i64 0, .string { data := #[] }, .int .i64 0, .int .i64 0] 101)).cell? ⟨b, 4, none⟩ = some (.int .i64 (t.off : Int)) := (row6 (Kt.alloc (T := fun _ => True) w7 _ _ _ _ (k7 _ _ _ HTd.out (by decide)) trivial)).2.2.2.2.1
            clear hb7 hR7 hd7 k7 hS r0 r1 r2 r3 r4 r5 f0 f1 f2 f3 f4 f5
            refine hK' _ _ (fun _ => hS7) ?_
            clear hK' K'
            try simp only [Act.put, List.setIfInBounds_toArray, List.set_cons_zero, List.set_cons_succ]
            refine wpAnyT_tk 4 _ ?_ rfl rfl (by kernel_rfl) (fun _ _ _ h => h) (by assumption) (Or.inl ⟨by rfl, fun x hx => ?_⟩) ?_
            rotate_left
            · have hx2 : x.cell? ⟨b, 4, none⟩ = some (.int .i64 (t.off : Int)) := hx
              clear hx
              go_simp
              try with_reducible rfl
            try simp only [Act.put, List.setIfInBounds_toArray, List.set_cons_zero, List.set_cons_succ]
            refine wpAnyT_one 5 rfl (by kernel_rfl) (fun K' hK' => ?_)
            go_simp
            refine hK' _ _ (fun _ => hS8) ?_
            clear hK' K'
            try simp only [Act.put, List.setIfInBounds_toArray, List.set_cons_zero, List.set_cons_succ]
            obtain ⟨w8, hw8⟩ : ∃ w8, w8 = w7.alloc (.cells #[.int .i64 0, .string { data := #[] }, .slice none 0 0, .int .i64 0, .int .i64 0, .int .i64 0, .int .i64 0, .string { data := #[] }, .int .i64 0, .int .i64 0, .int .i64 0, .string { data := #[] }, .int .i64 0, .int .i64 0] 101) := ⟨_, rfl⟩
            rw [← hw8]
            have q8 : w8.heap[w7.heap.size]? = some (.cells #[.int .i64 0, .string { data := #[] }, .slice none 0 0, .int .i64 0, .int .i64 0, .int .i64 0, .int .i64 0, .string { data := #[] }, .int .i64 0, .int .i64 0, .int .i64 0, .string { data := #[] }, .int .i64 0, .int .i64 0] 101) := by rw [hw8]; exact heap_alloc_new _ _
            have HB8 : Hid (Bes X w w8) := Lib.hid (by rw [hw8]; exact HB7.out.alloc _)
            have HR8 : Hid (Rdr w8 X v ts q7 f) := Lib.hid (by rw [hw8]; exact HR7.out.alloc _)
            have HQ8 : Hid (w8.heap[w.heap.size]? = some (.cells #[.int .i64 0, .string { data := #[] }, .slice none 0 0, .int .i64 0, .int .i64 0, .int .i64 0, .int .i64 0, .string { data := #[] }, .int .i64 0, .int .i64 0, .int .i64 0, .string { data := #[] }, .int .i64 0, .int .i64 0] 101)) := Lib.hid (by rw [hw8]; exact Kt.alloc (T := fun _ => True) w7 _ _ _ _ HQ7.out trivial)
            obtain ⟨d, hd0⟩ : ∃ d, d = w7.heap.size := ⟨_, rfl⟩
            rw [← hd0] at q8 ⊢
            have HD0 : Hid (w.heap.size < d ∧ d ≠ X ∧ w.heap.size ≠ d) := Lib.hid (by
              have h1 := (Array.getElem?_eq_some_iff.1 HQ7.out).1
              have h2 := HR7.out.lt
              omega)
            clear hw8 hd0 hS7 hS8 HQ7 HR7 HB7
            obtain ⟨p0, p1, p2, p3, p4, p5, p6, p7, p8, p9, p10, p11, p12, p13, pf0, pf1, pf2, pf3, pf4, pf5, pf6, pf7, pf8, pf9, pf10, pf11, pf12, pf13⟩ := row101 q8
            refine wpAnyT_one 6 rfl (by kernel_rfl) (fun K' hK' => ?_)
            go_simp
            refine hK' _ _ (fun h => absurd rfl h) ?_
            clear hK' K'
            try simp only [Act.put, List.setIfInBounds_toArray, List.set_cons_zero, List.set_cons_succ]
            refine wpAnyT_done (by kernel_rfl) ?_ _
            clear p0 p1 p2 p3 p4 p5 p6 p7 p8 p9 p10 p11 p12 p13 pf0 pf1 pf2 pf3 pf4 pf5 pf6 pf7 pf8 pf9 pf10 pf11 pf12 pf13
            obtain ⟨w9, hw9⟩ : ∃ w9, w9 = ((((((((((((((w8.setCell ⟨d, 0, none⟩ (.int .i64 3)).setCell ⟨d, 1, none⟩ (.string { data := #[] })).setCell ⟨d, 2, none⟩ (.slice none 0 0)).setCell ⟨d, 3, none⟩ (.int .i64 0)).setCell ⟨d, 4, none⟩ (.int .i64 0)).setCell ⟨d, 5, none⟩ (.int .i64 (x.kind : Int))).setCell ⟨d, 6, none⟩ (.int .i64 x.int)).setCell ⟨d, 7, none⟩ (.string ⟨x.text.toArray⟩)).setCell ⟨d, 8, none⟩ (.int .i64 (x.off : Int))).setCell ⟨d, 9, none⟩ (.int .i64 0)).setCell ⟨d, 10, none⟩ (.int .i64 0)).setCell ⟨d, 11, none⟩ (.string { data := #[] })).setCell ⟨d, 12, none⟩ (.int .i64 0)).setCell ⟨d, 13, none⟩ (.int .i64 (t.off : Int))) := ⟨_, rfl⟩
            rw [← hw9]
            have q9 : w9.heap[d]? = some (.cells #[.int .i64 3, .string { data := #[] }, .slice none 0 0, .int .i64 0, .int .i64 0, .int .i64 (x.kind : Int), .int .i64 x.int, .string ⟨x.text.toArray⟩, .int .i64 (x.off : Int), .int .i64 0, .int .i64 0, .string { data := #[] }, .int .i64 0, .int .i64 (t.off : Int)] 101) := by rw [hw9]; exact lit_set (x0 := .int .i64 3) (x1 := .string { data := #[] }) (x2 := .slice none 0 0) (x3 := .int .i64 0) (x4 := .int .i64 0) (x5 := .int .i64 (x.kind : Int)) (x6 := .int .i64 x.int) (x7 := .string ⟨x.text.toArray⟩) (x8 := .int .i64 (x.off : Int)) (x9 := .int .i64 0) (x10 := .int .i64 0) (x11 := .string { data := #[] }) (x12 := .int .i64 0) (x13 := .int .i64 (t.off : Int)) q8
            have HB9 : Hid (Bes X w w9) := Lib.hid (by rw [hw9]; exact lit_bes (x0 := .int .i64 3) (x1 := .string { data := #[] }) (x2 := .slice none 0 0) (x3 := .int .i64 0) (x4 := .int .i64 0) (x5 := .int .i64 (x.kind : Int)) (x6 := .int .i64 x.int) (x7 := .string ⟨x.text.toArray⟩) (x8 := .int .i64 (x.off : Int)) (x9 := .int .i64 0) (x10 := .int .i64 0) (x11 := .string { data := #[] }) (x12 := .int .i64 0) (x13 := .int .i64 (t.off : Int)) HB8.out (Nat.le_of_lt HD0.out.1))
            have HQ9 : Hid (w9.heap[w.heap.size]? = some (.cells #[.int .i64 0, .string { data := #[] }, .slice none 0 0, .int .i64 0, .int .i64 0, .int .i64 0, .int .i64 0, .string { data := #[] }, .int .i64 0, .int .i64 0, .int .i64 0, .string { data := #[] }, .int .i64 0, .int .i64 0] 101)) := Lib.hid (by rw [hw9, lit_oth HD0.out.2.2]; exact HQ8.out)
            have HR9 : Hid (Rdr w9 X v ts q7 f) := Lib.hid (HR8.out.kt (T := fun t => t ≠ 101) (by rw [hw9]; exact lit_kt (x0 := .int .i64 3) (x1 := .string { data := #[] }) (x2 := .slice none 0 0) (x3 := .int .i64 0) (x4 := .int .i64 0) (x5 := .int .i64 (x.kind : Int)) (x6 := .int .i64 x.int) (x7 := .string ⟨x.text.toArray⟩) (x8 := .int .i64 (x.off : Int)) (x9 := .int .i64 0) (x10 := .int .i64 0) (x11 := .string { data := #[] }) (x12 := .int .i64 0) (x13 := .int .i64 (t.off : Int)) q8 (by simp)) (by decide) (by decide))
            have HP9 := Lib.hid q9
            clear hw9 q9 q8 HB8 HQ8 HR8
            go_wp2_with fail
            cases ho : Gr.takeP f 11 (ts.drop q7) with
            | error F =>
              have HE2 : Hid (V = .error F) := Lib.hid (by rw [HE.out]; rw [HD7.out] at ho; rw [ho])
              refine (take_any X v ts q7 f _ 11 HR9.out).mono ?_
              rintro e w10 ⟨hb10, he10⟩
              rw [ho] at he10
              have he10 : e = gvE F := he10
              clear ho
              subst he10
              refine ⟨rfl, HB9.out.trans hb10, ?_⟩
              rw [HE2.out]; rfl
            | ok orr =>
              obtain ⟨o, r8⟩ := orr
              have HE2 : Hid (V = (match Gr.termP f true r8 with
                      | .error e => .error e
                      | .ok (y, r3) => .ok (⟨3, ⟨[], [], 0⟩, o.op, x, y, t.off⟩, r3))) := Lib.hid (by rw [HE.out]; rw [HD7.out] at ho; rw [ho])
              refine (take_any X v ts q7 f _ 11 HR9.out).mono ?_
              rintro e w10 ⟨hb10, he10⟩
              rw [ho] at he10
              obtain ⟨u10, q10, hu10, he10, hR10, hd10⟩ := he10
              have hu10 : u10 = tkA o := hu10
              clear ho
              subst hu10
              subst he10
              simp only [tkA]
              have k10 : Kt (fun t => t ≠ 90) w9 w10 := Kt.bes hb10 HR9.out.row (by simp)
              have hp10 := k10 _ _ _ HP9.out (by decide)
              have HP10 := Lib.hid hp10
              have HQ10 := Lib.hid (k10 _ _ _ HQ9.out (by decide))
              have HB10 := Lib.hid (HB9.out.trans hb10)
              have HR10 := Lib.hid hR10
              have HD10 := Lib.hid hd10
              obtain ⟨p0, p1, p2, p3, p4, p5, p6, p7, p8, p9, p10, p11, p12, p13, pf0, pf1, pf2, pf3, pf4, pf5, pf6, pf7, pf8, pf9, pf10, pf11, pf12, pf13⟩ := row101 hp10
              clear k10 hp10 hb10 hR10 hd10 HP9 HQ9 HB9 HR9
              go_upto_region 9 with fail
              obtain ⟨w11, hw11⟩ : ∃ w11, w11 = w10.setCell ⟨d, 4, none⟩ (.int .i64 (o.op : Int)) := ⟨_, rfl⟩
              rw [← hw11]
              have HP11 : Hid (w11.heap[d]? = some (.cells #[.int .i64 3, .string { data := #[] }, .slice none 0 0, .int .i64 0, .int .i64 (o.op : Int), .int .i64 (x.kind : Int), .int .i64 x.int, .string ⟨x.text.toArray⟩, .int .i64 (x.off : Int), .int .i64 0, .int .i64 0, .string { data := #[] }, .int .i64 0, .int .i64 (t.off : Int)] 101)) := Lib.hid (by rw [hw11]; exact lit_op HP10.out)
              have HB11 : Hid (Bes X w w11) := Lib.hid (by rw [hw11]; exact HB10.out.set (p := ⟨d, 4, none⟩) (.inr (Nat.le_of_lt HD0.out.1)) _)
              have HQ11 : Hid (w11.heap[w.heap.size]? = some (.cells #[.int .i64 0, .string { data := #[] }, .slice none 0 0, .int .i64 0, .int .i64 0, .int .i64 0, .int .i64 0, .string { data := #[] }, .int .i64 0, .int .i64 0, .int .i64 0, .string { data := #[] }, .int .i64 0, .int .i64 0] 101)) := Lib.hid (by rw [hw11, Below.heap_setCell _ _ _ _ HD0.out.2.2]; exact HQ10.out)
              have HR11 : Hid (Rdr w11 X v ts q10 f) := Lib.hid (HR10.out.kt (T := fun t => t ≠ 101) (by rw [hw11]; exact Kt.set (p := ⟨d, 4, none⟩) HP10.out (by simp)) (by decide) (by decide))
              clear p0 p1 p2 p3 p4 p5 p6 p7 p8 p9 p10 p11 p12 p13 pf0 pf1 pf2 pf3 pf4 pf5 pf6 pf7 pf8 pf9 pf10 pf11 pf12 pf13
              clear hw11 HP10 HB10 HQ10 HR10
              go_wp2_with fail
              cases hy : Gr.termP f true (ts.drop q10) with
              | error F =>
                have HE3 : Hid (V = .error F) := Lib.hid (by rw [HE2.out]; rw [HD10.out] at hy; rw [hy])
                refine (term_any X v ts q10 f _ true HR11.out).mono ?_
                rintro e w12 ⟨hb12, he12⟩
                rw [hy] at he12
                have he12 : e = gvE F := he12
                clear hy
                subst he12
                refine ⟨rfl, HB11.out.trans hb12, ?_⟩
                rw [HE3.out]; rfl
              | ok yr =>
                obtain ⟨y, r7⟩ := yr
                have HE3 : Hid (V = .ok (⟨3, ⟨[], [], 0⟩, o.op, x, y, t.off⟩, r7)) := Lib.hid (by rw [HE2.out]; rw [HD10.out] at hy; rw [hy])
                refine (term_any X v ts q10 f _ true HR11.out).mono ?_
                rintro e w12 ⟨hb12, he12⟩
                rw [hy] at he12
                obtain ⟨u12, q12, hu12, he12, hR12, hd12⟩ := he12
                have hu12 : u12 = trmA y := hu12
                clear hy
                subst hu12
                subst he12
                simp only [trmA]
                have k12 : Kt (fun t => t ≠ 90) w11 w12 := Kt.bes hb12 HR11.out.row (by simp)
                have hp12 := k12 _ _ _ HP11.out (by decide)
                have HP12 := Lib.hid hp12
                have HQ12 := Lib.hid (k12 _ _ _ HQ11.out (by decide))
                have HB12 := Lib.hid (HB11.out.trans hb12)
                have HR12 := Lib.hid hR12
                have HD12 := Lib.hid hd12
                obtain ⟨p0, p1, p2, p3, p4, p5, p6, p7, p8, p9, p10, p11, p12, p13, pf0, pf1, pf2, pf3, pf4, pf5, pf6, pf7, pf8, pf9, pf10, pf11, pf12, pf13⟩ := row101 hp12
                clear k12 hp12 hb12 hR12 hd12 HP11 HQ11 HB11 HR11
                go_upto_region 10 with fail
                obtain ⟨w13, hw13⟩ : ∃ w13, w13 = ((((w12.setCell ⟨d, 9, none⟩ (.int .i64 (y.kind : Int))).setCell ⟨d, 10, none⟩ (.int .i64 y.int)).setCell ⟨d, 11, none⟩ (.string ⟨y.text.toArray⟩)).setCell ⟨d, 12, none⟩ (.int .i64 (y.off : Int))) := ⟨_, rfl⟩
                rw [← hw13]
                have hp13 : w13.heap[d]? = some (.cells #[.int .i64 3, .string { data := #[] }, .slice none 0 0, .int .i64 0, .int .i64 (o.op : Int), .int .i64 (x.kind : Int), .int .i64 x.int, .string ⟨x.text.toArray⟩, .int .i64 (x.off : Int), .int .i64 (y.kind : Int), .int .i64 y.int, .string ⟨y.text.toArray⟩, .int .i64 (y.off : Int), .int .i64 (t.off : Int)] 101) := by rw [hw13]; exact lit_right HP12.out
                have HB13 : Hid (Bes X w w13) := Lib.hid (by rw [hw13]; exact (((HB12.out.set (p := ⟨d, 9, none⟩) (.inr (Nat.le_of_lt HD0.out.1)) _).set (p := ⟨d, 10, none⟩) (.inr (Nat.le_of_lt HD0.out.1)) _).set (p := ⟨d, 11, none⟩) (.inr (Nat.le_of_lt HD0.out.1)) _).set (p := ⟨d, 12, none⟩) (.inr (Nat.le_of_lt HD0.out.1)) _)
                have o13 : ∀ k, k ≠ d → w13.heap[k]? = w12.heap[k]? := fun k hk => by rw [hw13, Below.heap_setCell _ _ _ _ hk, Below.heap_setCell _ _ _ _ hk, Below.heap_setCell _ _ _ _ hk, Below.heap_setCell _ _ _ _ hk]
                have q13 : w13.heap[w.heap.size]? = some (.cells #[.int .i64 0, .string { data := #[] }, .slice none 0 0, .int .i64 0, .int .i64 0, .int .i64 0, .int .i64 0, .string { data := #[] }, .int .i64 0, .int .i64 0, .int .i64 0, .string { data := #[] }, .int .i64 0, .int .i64 0] 101) := by rw [o13 _ HD0.out.2.2]; exact HQ12.out
                have HX13 : Hid (w13.heap[X]? = w12.heap[X]?) := Lib.hid (o13 _ (Ne.symm HD0.out.2.1))
                clear p0 p1 p2 p3 p4 p5 p6 p7 p8 p9 p10 p11 p12 p13 pf0 pf1 pf2 pf3 pf4 pf5 pf6 pf7 pf8 pf9 pf10 pf11 pf12 pf13
                clear hw13 o13
                obtain ⟨p0, p1, p2, p3, p4, p5, p6, p7, p8, p9, p10, p11, p12, p13, pf0, pf1, pf2, pf3, pf4, pf5, pf6, pf7, pf8, pf9, pf10, pf11, pf12, pf13⟩ := row101 hp13
                obtain ⟨z0, z1, z2, z3, z4, z5, z6, z7, z8, z9, z10, z11, z12, z13, zf0, zf1, zf2, zf3, zf4, zf5, zf6, zf7, zf8, zf9, zf10, zf11, zf12, zf13⟩ := row101 q13
                have HH := Lib.hid (lit_set (x0 := .int .i64 3) (x1 := .string { data := #[] }) (x2 := .slice none 0 0) (x3 := .int .i64 0) (x4 := .int .i64 (o.op : Int)) (x5 := .int .i64 (x.kind : Int)) (x6 := .int .i64 x.int) (x7 := .string ⟨x.text.toArray⟩) (x8 := .int .i64 (x.off : Int)) (x9 := .int .i64 (y.kind : Int)) (x10 := .int .i64 y.int) (x11 := .string ⟨y.text.toArray⟩) (x12 := .int .i64 (y.off : Int)) (x13 := .int .i64 (t.off : Int)) q13)
                have HBZ := Lib.hid (lit_bes (x0 := .int .i64 3) (x1 := .string { data := #[] }) (x2 := .slice none 0 0) (x3 := .int .i64 0) (x4 := .int .i64 (o.op : Int)) (x5 := .int .i64 (x.kind : Int)) (x6 := .int .i64 x.int) (x7 := .string ⟨x.text.toArray⟩) (x8 := .int .i64 (x.off : Int)) (x9 := .int .i64 (y.kind : Int)) (x10 := .int .i64 y.int) (x11 := .string ⟨y.text.toArray⟩) (x12 := .int .i64 (y.off : Int)) (x13 := .int .i64 (t.off : Int)) HB13.out (Nat.le_refl _))
                have HRZ := Lib.hid (hR.turn HBZ.out (q := q12) (by rw [lit_oth (by omega), HX13.out]; exact HR12.out.row) HR12.out.le)
                clear hp13 q13
                go_wp2
                refine bodyPost_ret (results_cell_row rfl _ _ w.heap.size 101 #[.int .i64 3, .string { data := #[] }, .slice none 0 0, .int .i64 0, .int .i64 (o.op : Int), .int .i64 (x.kind : Int), .int .i64 x.int, .string ⟨x.text.toArray⟩, .int .i64 (x.off : Int), .int .i64 (y.kind : Int), .int .i64 y.int, .string ⟨y.text.toArray⟩, .int .i64 (y.off : Int), .int .i64 (t.off : Int)] (0, 0) _ rfl HH.out Tryz.underlying101 rfl Tryz.size101) rfl ?_
                refine ⟨HBZ.out, ?_⟩
                rw [HE3.out]
                exact ⟨_, q12, ⟨.slice none 0 0, rfl, ⟨rfl, .inl ⟨rfl, rfl⟩⟩⟩, rfl, HRZ.out, HD12.out⟩
          · go_simp
            have HRa := Lib.hid (HRd.out.alloc (.cells #[.int .i64 0, .string { data := #[] }, .slice none 0 0, .int .i64 0, .int .i64 0, .int .i64 0, .int .i64 0, .string { data := #[] }, .int .i64 0, .int .i64 0, .int .i64 0, .string { data := #[] }, .int .i64 0, .int .i64 0] 101))
            have HBa := Lib.hid (HBd.out.alloc (.cells #[.int .i64 0, .string { data := #[] }, .slice none 0 0, .int .i64 0, .int .i64 0, .int .i64 0, .int .i64 0, .string { data := #[] }, .int .i64 0, .int .i64 0, .int .i64 0, .string { data := #[] }, .int .i64 0, .int .i64 0] 101))
            have ka : Kt (fun _ => True) w3.drew (w3.drew.alloc (.cells #[.int .i64 0, .string { data := #[] }, .slice none 0 0, .int .i64 0, .int .i64 0, .int .i64 0, .int .i64 0, .string { data := #[] }, .int .i64 0, .int .i64 0, .int .i64 0, .string { data := #[] }, .int .i64 0, .int .i64 0] 101)) := Kt.alloc w3.drew _
            have HQa := Lib.hid (ka _ _ _ HQd.out trivial)
            have HTa := Lib.hid (ka _ _ _ HTd.out trivial)
            have qa : (w3.drew.alloc (.cells #[.int .i64 0, .string { data := #[] }, .slice none 0 0, .int .i64 0, .int .i64 0, .int .i64 0, .int .i64 0, .string { data := #[] }, .int .i64 0, .int .i64 0, .int .i64 0, .string { data := #[] }, .int .i64 0, .int .i64 0] 101)).heap[w3.heap.size]? = some (.cells #[.int .i64 0, .string { data := #[] }, .slice none 0 0, .int .i64 0, .int .i64 0, .int .i64 0, .int .i64 0, .string { data := #[] }, .int .i64 0, .int .i64 0, .int .i64 0, .string { data := #[] }, .int .i64 0, .int .i64 0] 101) := heap_alloc_new w3.drew _
            have hSa := (row6 HTa.out).2.2.2.2.1
            have h1 := (Array.getElem?_eq_some_iff.1 HQd.out).1
            have h2 := HRd.out.lt
            rw [drew_heap] at h1 h2
            obtain ⟨d, hd0⟩ : ∃ d, d = w3.heap.size := ⟨_, rfl⟩
            rw [← hd0] at qa ⊢
            have HD0 : Hid (w.heap.size < d ∧ d ≠ X ∧ w.heap.size ≠ d) := Lib.hid (by omega)
            have HQAA := Lib.hid qa
            clear ka qa h1 h2 hd0
            refine hK' _ _ (fun _ => hSa) ?_
            clear hK' K'
            try simp only [Act.put, List.setIfInBounds_toArray, List.set_cons_zero, List.set_cons_succ]
            refine wpAnyT_one 1 rfl (by kernel_rfl) (fun K' hK' => ?_)
            go_simp
            go_at_call 47
            refine (term_any X v ts a f _ true HRa.out).mono ?_
            rintro e w8 ⟨hb7, he7⟩
            rw [HRES.out] at he7
            obtain ⟨u7, q7, hu7, he7, hR7, hd7⟩ := he7
            have hu7 : u7 = trmA x := hu7
            subst hu7
            subst he7
            simp only [trmA]
            have k7 : Kt (fun t => t ≠ 90) (w3.drew.alloc (.cells #[.int .i64 0, .string { data := #[] }, .slice none 0 0, .int .i64 0, .int .i64 0, .int .i64 0, .int .i64 0, .string { data := #[] }, .int .i64 0, .int .i64 0, .int .i64 0, .string { data := #[] }, .int .i64 0, .int .i64 0] 101)) w8 := Kt.bes hb7 HRa.out.row (by simp)
            have hS7 := (row6 (k7 _ _ _ HTa.out (by decide))).2.2.2.2.1
            have HQ8 := Lib.hid (k7 _ _ _ HQa.out (by decide))
            have q8 := k7 _ _ _ HQAA.out (by decide)
            have HB8 := Lib.hid (HBa.out.trans hb7)
            have HR8 := Lib.hid hR7
            have HD7 := Lib.hid hd7
            clear hb7 hR7 hd7 k7 hS hSa r0 r1 r2 r3 r4 r5 f0 f1 f2 f3 f4 f5 HRa HBa HQa HTa HQAA
            refine hK' _ _ (fun _ => hS7) ?_
            clear hK' K'
            try simp only [Act.put, List.setIfInBounds_toArray, List.set_cons_zero, List.set_cons_succ]
            refine wpAnyT_tk 4 _ ?_ rfl rfl (by kernel_rfl) (fun _ _ _ h => h) (by assumption) (Or.inl ⟨by rfl, fun x hx => ?_⟩) ?_
            rotate_left
            · have hx2 : x.cell? ⟨b, 4, none⟩ = some (.int .i64 (t.off : Int)) := hx
              clear hx
              go_simp
              try with_reducible rfl
            try simp only [Act.put, List.setIfInBounds_toArray, List.set_cons_zero, List.set_cons_succ]
            clear hS7
            obtain ⟨p0, p1, p2, p3, p4, p5, p6, p7, p8, p9, p10, p11, p12, p13, pf0, pf1, pf2, pf3, pf4, pf5, pf6, pf7, pf8, pf9, pf10, pf11, pf12, pf13⟩ := row101 q8
            refine wpAnyT_one 6 rfl (by kernel_rfl) (fun K' hK' => ?_)
            go_simp
            refine hK' _ _ (fun h => absurd rfl h) ?_
            clear hK' K'
            try simp only [Act.put, List.setIfInBounds_toArray, List.set_cons_zero, List.set_cons_succ]
            refine wpAnyT_done (by kernel_rfl) ?_ _
            clear p0 p1 p2 p3 p4 p5 p6 p7 p8 p9 p10 p11 p12 p13 pf0 pf1 pf2 pf3 pf4 pf5 pf6 pf7 pf8 pf9 pf10 pf11 pf12 pf13
            obtain ⟨w9, hw9⟩ : ∃ w9, w9 = ((((((((((((((w8.setCell ⟨d, 0, none⟩ (.int .i64 3)).setCell ⟨d, 1, none⟩ (.string { data := #[] })).setCell ⟨d, 2, none⟩ (.slice none 0 0)).setCell ⟨d, 3, none⟩ (.int .i64 0)).setCell ⟨d, 4, none⟩ (.int .i64 0)).setCell ⟨d, 5, none⟩ (.int .i64 (x.kind : Int))).setCell ⟨d, 6, none⟩ (.int .i64 x.int)).setCell ⟨d, 7, none⟩ (.string ⟨x.text.toArray⟩)).setCell ⟨d, 8, none⟩ (.int .i64 (x.off : Int))).setCell ⟨d, 9, none⟩ (.int .i64 0)).setCell ⟨d, 10, none⟩ (.int .i64 0)).setCell ⟨d, 11, none⟩ (.string { data := #[] })).setCell ⟨d, 12, none⟩ (.int .i64 0)).setCell ⟨d, 13, none⟩ (.int .i64 (t.off : Int))) := ⟨_, rfl⟩
            rw [← hw9]
            have q9 : w9.heap[d]? = some (.cells #[.int .i64 3, .string { data := #[] }, .slice none 0 0, .int .i64 0, .int .i64 0, .int .i64 (x.kind : Int), .int .i64 x.int, .string ⟨x.text.toArray⟩, .int .i64 (x.off : Int), .int .i64 0, .int .i64 0, .string { data := #[] }, .int .i64 0, .int .i64 (t.off : Int)] 101) := by rw [hw9]; exact lit_set (x0 := .int .i64 3) (x1 := .string { data := #[] }) (x2 := .slice none 0 0) (x3 := .int .i64 0) (x4 := .int .i64 0) (x5 := .int .i64 (x.kind : Int)) (x6 := .int .i64 x.int) (x7 := .string ⟨x.text.toArray⟩) (x8 := .int .i64 (x.off : Int)) (x9 := .int .i64 0) (x10 := .int .i64 0) (x11 := .string { data := #[] }) (x12 := .int .i64 0) (x13 := .int .i64 (t.off : Int)) q8
            have HB9 : Hid (Bes X w w9) := Lib.hid (by rw [hw9]; exact lit_bes (x0 := .int .i64 3) (x1 := .string { data := #[] }) (x2 := .slice none 0 0) (x3 := .int .i64 0) (x4 := .int .i64 0) (x5 := .int .i64 (x.kind : Int)) (x6 := .int .i64 x.int) (x7 := .string ⟨x.text.toArray⟩) (x8 := .int .i64 (x.off : Int)) (x9 := .int .i64 0) (x10 := .int .i64 0) (x11 := .string { data := #[] }) (x12 := .int .i64 0) (x13 := .int .i64 (t.off : Int)) HB8.out (Nat.le_of_lt HD0.out.1))
            have HQ9 : Hid (w9.heap[w.heap.size]? = some (.cells #[.int .i64 0, .string { data := #[] }, .slice none 0 0, .int .i64 0, .int .i64 0, .int .i64 0, .int .i64 0, .string { data := #[] }, .int .i64 0, .int .i64 0, .int .i64 0, .string { data := #[] }, .int .i64 0, .int .i64 0] 101)) := Lib.hid (by rw [hw9, lit_oth HD0.out.2.2]; exact HQ8.out)
            have HR9 : Hid (Rdr w9 X v ts q7 f) := Lib.hid (HR8.out.kt (T := fun t => t ≠ 101) (by rw [hw9]; exact lit_kt (x0 := .int .i64 3) (x1 := .string { data := #[] }) (x2 := .slice none 0 0) (x3 := .int .i64 0) (x4 := .int .i64 0) (x5 := .int .i64 (x.kind : Int)) (x6 := .int .i64 x.int) (x7 := .string ⟨x.text.toArray⟩) (x8 := .int .i64 (x.off : Int)) (x9 := .int .i64 0) (x10 := .int .i64 0) (x11 := .string { data := #[] }) (x12 := .int .i64 0) (x13 := .int .i64 (t.off : Int)) q8 (by simp)) (by decide) (by decide))
            have HP9 := Lib.hid q9
            clear hw9 q9 q8 HB8 HQ8 HR8
            go_wp2_with fail
            cases ho : Gr.takeP f 11 (ts.drop q7) with
            | error F =>
              have HE2 : Hid (V = .error F) := Lib.hid (by rw [HE.out]; rw [HD7.out] at ho; rw [ho])
              refine (take_any X v ts q7 f _ 11 HR9.out).mono ?_
              rintro e w10 ⟨hb10, he10⟩
              rw [ho] at he10
              have he10 : e = gvE F := he10
              clear ho
              subst he10
              refine ⟨rfl, HB9.out.trans hb10, ?_⟩
              rw [HE2.out]; rfl
            | ok orr =>
              obtain ⟨o, r8⟩ := orr
              have HE2 : Hid (V = (match Gr.termP f true r8 with
                      | .error e => .error e
                      | .ok (y, r3) => .ok (⟨3, ⟨[], [], 0⟩, o.op, x, y, t.off⟩, r3))) := Lib.hid (by rw [HE.out]; rw [HD7.out] at ho; rw [ho])
              refine (take_any X v ts q7 f _ 11 HR9.out).mono ?_
              rintro e w10 ⟨hb10, he10⟩
              rw [ho] at he10
              obtain ⟨u10, q10, hu10, he10, hR10, hd10⟩ := he10
              have hu10 : u10 = tkA o := hu10
              clear ho
              subst hu10
              subst he10
              simp only [tkA]
              have k10 : Kt (fun t => t ≠ 90) w9 w10 := Kt.bes hb10 HR9.out.row (by simp)
              have hp10 := k10 _ _ _ HP9.out (by decide)
              have HP10 := Lib.hid hp10
              have HQ10 := Lib.hid (k10 _ _ _ HQ9.out (by decide))
              have HB10 := Lib.hid (HB9.out.trans hb10)
              have HR10 := Lib.hid hR10
              have HD10 := Lib.hid hd10
              obtain ⟨p0, p1, p2, p3, p4, p5, p6, p7, p8, p9, p10, p11, p12, p13, pf0, pf1, pf2, pf3, pf4, pf5, pf6, pf7, pf8, pf9, pf10, pf11, pf12, pf13⟩ := row101 hp10
              clear k10 hp10 hb10 hR10 hd10 HP9 HQ9 HB9 HR9
              go_upto_region 9 with fail
              obtain ⟨w11, hw11⟩ : ∃ w11, w11 = w10.setCell ⟨d, 4, none⟩ (.int .i64 (o.op : Int)) := ⟨_, rfl⟩
              rw [← hw11]
              have HP11 : Hid (w11.heap[d]? = some (.cells #[.int .i64 3, .string { data := #[] }, .slice none 0 0, .int .i64 0, .int .i64 (o.op : Int), .int .i64 (x.kind : Int), .int .i64 x.int, .string ⟨x.text.toArray⟩, .int .i64 (x.off : Int), .int .i64 0, .int .i64 0, .string { data := #[] }, .int .i64 0, .int .i64 (t.off : Int)] 101)) := Lib.hid (by rw [hw11]; exact lit_op HP10.out)
              have HB11 : Hid (Bes X w w11) := Lib.hid (by rw [hw11]; exact HB10.out.set (p := ⟨d, 4, none⟩) (.inr (Nat.le_of_lt HD0.out.1)) _)
              have HQ11 : Hid (w11.heap[w.heap.size]? = some (.cells #[.int .i64 0, .string { data := #[] }, .slice none 0 0, .int .i64 0, .int .i64 0, .int .i64 0, .int .i64 0, .string { data := #[] }, .int .i64 0, .int .i64 0, .int .i64 0, .string { data := #[] }, .int .i64 0, .int .i64 0] 101)) := Lib.hid (by rw [hw11, Below.heap_setCell _ _ _ _ HD0.out.2.2]; exact HQ10.out)
              have HR11 : Hid (Rdr w11 X v ts q10 f) := Lib.hid (HR10.out.kt (T := fun t => t ≠ 101) (by rw [hw11]; exact Kt.set (p := ⟨d, 4, none⟩) HP10.out (by simp)) (by decide) (by decide))
              clear p0 p1 p2 p3 p4 p5 p6 p7 p8 p9 p10 p11 p12 p13 pf0 pf1 pf2 pf3 pf4 pf5 pf6 pf7 pf8 pf9 pf10 pf11 pf12 pf13
              clear hw11 HP10 HB10 HQ10 HR10
              go_wp2_with fail
              cases hy : Gr.termP f true (ts.drop q10) with
              | error F =>
                have HE3 : Hid (V = .error F) := Lib.hid (by rw [HE2.out]; rw [HD10.out] at hy; rw [hy])
                refine (term_any X v ts q10 f _ true HR11.out).mono ?_
                rintro e w12 ⟨hb12, he12⟩
                rw [hy] at he12
                have he12 : e = gvE F := he12
                clear hy
                subst he12
                refine ⟨rfl, HB11.out.trans hb12, ?_⟩
                rw [HE3.out]; rfl
              | ok yr =>
                obtain ⟨y, r7⟩ := yr
                have HE3 : Hid (V = .ok (⟨3, ⟨[], [], 0⟩, o.op, x, y, t.off⟩, r7)) := Lib.hid (by rw [HE2.out]; rw [HD10.out] at hy; rw [hy])
                refine (term_any X v ts q10 f _ true HR11.out).mono ?_
                rintro e w12 ⟨hb12, he12⟩
                rw [hy] at he12
                obtain ⟨u12, q12, hu12, he12, hR12, hd12⟩ := he12
                have hu12 : u12 = trmA y := hu12
                clear hy
                subst hu12
                subst he12
                simp only [trmA]
                have k12 : Kt (fun t => t ≠ 90) w11 w12 := Kt.bes hb12 HR11.out.row (by simp)
                have hp12 := k12 _ _ _ HP11.out (by decide)
                have HP12 := Lib.hid hp12
                have HQ12 := Lib.hid (k12 _ _ _ HQ11.out (by decide))
                have HB12 := Lib.hid (HB11.out.trans hb12)
                have HR12 := Lib.hid hR12
                have HD12 := Lib.hid hd12
                obtain ⟨p0, p1, p2, p3, p4, p5, p6, p7, p8, p9, p10, p11, p12, p13, pf0, pf1, pf2, pf3, pf4, pf5, pf6, pf7, pf8, pf9, pf10, pf11, pf12, pf13⟩ := row101 hp12
                clear k12 hp12 hb12 hR12 hd12 HP11 HQ11 HB11 HR11
                go_upto_region 10 with fail
                obtain ⟨w13, hw13⟩ : ∃ w13, w13 = ((((w12.setCell ⟨d, 9, none⟩ (.int .i64 (y.kind : Int))).setCell ⟨d, 10, none⟩ (.int .i64 y.int)).setCell ⟨d, 11, none⟩ (.string ⟨y.text.toArray⟩)).setCell ⟨d, 12, none⟩ (.int .i64 (y.off : Int))) := ⟨_, rfl⟩
                rw [← hw13]
                have hp13 : w13.heap[d]? = some (.cells #[.int .i64 3, .string { data := #[] }, .slice none 0 0, .int .i64 0, .int .i64 (o.op : Int), .int .i64 (x.kind : Int), .int .i64 x.int, .string ⟨x.text.toArray⟩, .int .i64 (x.off : Int), .int .i64 (y.kind : Int), .int .i64 y.int, .string ⟨y.text.toArray⟩, .int .i64 (y.off : Int), .int .i64 (t.off : Int)] 101) := by rw [hw13]; exact lit_right HP12.out
                have HB13 : Hid (Bes X w w13) := Lib.hid (by rw [hw13]; exact (((HB12.out.set (p := ⟨d, 9, none⟩) (.inr (Nat.le_of_lt HD0.out.1)) _).set (p := ⟨d, 10, none⟩) (.inr (Nat.le_of_lt HD0.out.1)) _).set (p := ⟨d, 11, none⟩) (.inr (Nat.le_of_lt HD0.out.1)) _).set (p := ⟨d, 12, none⟩) (.inr (Nat.le_of_lt HD0.out.1)) _)
                have o13 : ∀ k, k ≠ d → w13.heap[k]? = w12.heap[k]? := fun k hk => by rw [hw13, Below.heap_setCell _ _ _ _ hk, Below.heap_setCell _ _ _ _ hk, Below.heap_setCell _ _ _ _ hk, Below.heap_setCell _ _ _ _ hk]
                have q13 : w13.heap[w.heap.size]? = some (.cells #[.int .i64 0, .string { data := #[] }, .slice none 0 0, .int .i64 0, .int .i64 0, .int .i64 0, .int .i64 0, .string { data := #[] }, .int .i64 0, .int .i64 0, .int .i64 0, .string { data := #[] }, .int .i64 0, .int .i64 0] 101) := by rw [o13 _ HD0.out.2.2]; exact HQ12.out
                have HX13 : Hid (w13.heap[X]? = w12.heap[X]?) := Lib.hid (o13 _ (Ne.symm HD0.out.2.1))
                clear p0 p1 p2 p3 p4 p5 p6 p7 p8 p9 p10 p11 p12 p13 pf0 pf1 pf2 pf3 pf4 pf5 pf6 pf7 pf8 pf9 pf10 pf11 pf12 pf13
                clear hw13 o13
                obtain ⟨p0, p1, p2, p3, p4, p5, p6, p7, p8, p9, p10, p11, p12, p13, pf0, pf1, pf2, pf3, pf4, pf5, pf6, pf7, pf8, pf9, pf10, pf11, pf12, pf13⟩ := row101 hp13
                obtain ⟨z0, z1, z2, z3, z4, z5, z6, z7, z8, z9, z10, z11, z12, z13, zf0, zf1, zf2, zf3, zf4, zf5, zf6, zf7, zf8, zf9, zf10, zf11, zf12, zf13⟩ := row101 q13
                have HH := Lib.hid (lit_set (x0 := .int .i64 3) (x1 := .string { data := #[] }) (x2 := .slice none 0 0) (x3 := .int .i64 0) (x4 := .int .i64 (o.op : Int)) (x5 := .int .i64 (x.kind : Int)) (x6 := .int .i64 x.int) (x7 := .string ⟨x.text.toArray⟩) (x8 := .int .i64 (x.off : Int)) (x9 := .int .i64 (y.kind : Int)) (x10 := .int .i64 y.int) (x11 := .string ⟨y.text.toArray⟩) (x12 := .int .i64 (y.off : Int)) (x13 := .int .i64 (t.off : Int)) q13)
                have HBZ := Lib.hid (lit_bes (x0 := .int .i64 3) (x1 := .string { data := #[] }) (x2 := .slice none 0 0) (x3 := .int .i64 0) (x4 := .int .i64 (o.op : Int)) (x5 := .int .i64 (x.kind : Int)) (x6 := .int .i64 x.int) (x7 := .string ⟨x.text.toArray⟩) (x8 := .int .i64 (x.off : Int)) (x9 := .int .i64 (y.kind : Int)) (x10 := .int .i64 y.int) (x11 := .string ⟨y.text.toArray⟩) (x12 := .int .i64 (y.off : Int)) (x13 := .int .i64 (t.off : Int)) HB13.out (Nat.le_refl _))
                have HRZ := Lib.hid (hR.turn HBZ.out (q := q12) (by rw [lit_oth (by omega), HX13.out]; exact HR12.out.row) HR12.out.le)
                clear hp13 q13
                go_wp2
                refine bodyPost_ret (results_cell_row rfl _ _ w.heap.size 101 #[.int .i64 3, .string { data := #[] }, .slice none 0 0, .int .i64 0, .int .i64 (o.op : Int), .int .i64 (x.kind : Int), .int .i64 x.int, .string ⟨x.text.toArray⟩, .int .i64 (x.off : Int), .int .i64 (y.kind : Int), .int .i64 y.int, .string ⟨y.text.toArray⟩, .int .i64 (y.off : Int), .int .i64 (t.off : Int)] (0, 0) _ rfl HH.out Tryz.underlying101 rfl Tryz.size101) rfl ?_
                refine ⟨HBZ.out, ?_⟩
                rw [HE3.out]
                exact ⟨_, q12, ⟨.slice none 0 0, rfl, ⟨rfl, .inl ⟨rfl, rfl⟩⟩⟩, rfl, HRZ.out, HD12.out⟩
end Go.Proofs.YtncdjkdpoinfaaaGreatDoor
