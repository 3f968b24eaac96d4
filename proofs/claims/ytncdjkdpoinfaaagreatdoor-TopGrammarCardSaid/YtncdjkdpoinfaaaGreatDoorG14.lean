/-
  Texts of this seat, one behind the other: W35, K7, K8. Conditions: those that each of them states.
-/
import Derived.Test.YtncdjkdpoinfaaaGreatDoorG13
/-
  The walk of parse's atom. Conditions: the reader lies in memory.
-/
namespace Go.Proofs.YtncdjkdpoinfaaaGreatDoor
open Go.RowKit Go.Shelf Pl

set_option maxRecDepth 100000 in
set_option maxHeartbeats 6400000 in
theorem atom_any (X : Nat) (v : Value) (ts : List Tk) (a : Nat) (f : Gr.Flt) (w : World) (vars : Bool) (hR : Rdr w X v ts a f) :
    Calls Tryz.prog 25 #[.pointer (some ⟨X, 0, none⟩), .bool vars] w (AtomIs X v ts f w (Gr.atomP f vars (ts.drop a))) := by
  obtain ⟨i59, bi, b0, b1, b2⟩ := info_parts Tryz.info59
  have hf0 := fld0
  have hX := hR.lt
  have hfew := hR.few
  obtain ⟨V, hV⟩ : ∃ V, V = Gr.atomP f vars (ts.drop a) := ⟨_, rfl⟩
  rw [← hV]
  have HV0 := Lib.hid hV
  clear hV
  obtain ⟨w1, hw1⟩ : ∃ w1, w1 = w.alloc (.cells #[.string { data := #[] }, .slice none 0 0, .int .i64 0] 32) := ⟨_, rfl⟩
  have hR1 : Rdr w1 X v ts a f := by rw [hw1]; exact hR.alloc _
  have hB1 : Below w.heap.size w w1 := by rw [hw1]; exact up_alloc _ _
  have q1 : w1.heap[w.heap.size]? = some (.cells #[.string { data := #[] }, .slice none 0 0, .int .i64 0] 32) := by rw [hw1]; exact heap_alloc_new _ _
  have HZ1 : Hid (w1.heap.size = w.heap.size + 1) := Lib.hid (by rw [hw1]; simp)
  have HW1 := Lib.hid hw1
  have HB1 := Lib.hid hB1
  have HQ1 := Lib.hid q1
  clear hw1 hB1 q1
  go_enter Tryz.func25, Tryz.ntmps25
  go_upto_region 1 with fail
  rw [← HW1.out]
  go_wp2_with fail
  refine (take_any X v ts a f _ 1 hR1).mono ?_
  rintro e w2 ⟨hb, he⟩
  have hV := HV0.out
  have hV2 := HV0.out
  rw [Gr.atomP_take] at hV2
  cases hT : Gr.takeP f 1 (ts.drop a) with
  | error F =>
    rw [hT] at he hV2
    have HV : Hid (V = .error F) := Lib.hid hV2
    have he : e = gvE F := he
    clear hV hV2
    subst he
    refine ⟨rfl, (Bes.of HB1.out).trans hb, ?_⟩
    rw [HV.out]; rfl
  | ok tr =>
    obtain ⟨t, r⟩ := tr
    rw [hT] at he
    obtain ⟨u, a2, hu, he, hR2, hd2⟩ := he
    have hu : u = tkA t := hu
    subst hu
    subst he
    have hk1 : t.kind = 1 ∧ ts.drop a = t :: r := by
      cases hd : ts.drop a with
      | nil => rw [hd] at hT; simp [Gr.takeP] at hT
      | cons t' r' =>
        rw [hd] at hT
        by_cases h1 : t'.kind = 1
        · simp [Gr.takeP, h1] at hT
          rw [← hT.1, ← hT.2]
          exact ⟨h1, rfl⟩
        · simp [Gr.takeP, h1] at hT
    rw [hk1.2] at hV
    have HV := Lib.hid hV
    have HK1 := Lib.hid hk1.1
    have HB2 := Lib.hid ((Bes.of HB1.out).trans hb)
    have q2 : w2.heap[w.heap.size]? = some (.cells #[.string { data := #[] }, .slice none 0 0, .int .i64 0] 32) := by rw [hb.block _ (by have := HZ1.out; omega) (by omega)]; exact HQ1.out
    have HQ2 := Lib.hid q2
    have HR2 := Lib.hid hR2
    have HD2 := Lib.hid hd2
    have HZ2 := Lib.hid hb.size
    clear hV hV2 hT hb q2 hk1 hd2 hR1
    simp only [tkA]
    go_upto_region 2 with fail
    obtain ⟨w3, hw3⟩ : ∃ w3, w3 = w2.alloc (.cells #[.int .i64 (t.kind : Int), .string { data := t.text.toArray }, .int .i64 t.int, .int .i64 (t.op : Int), .int .i64 (t.off : Int), .int .i64 (t.fin : Int)] 62) := ⟨_, rfl⟩
    rw [← hw3]
    have t3 : w3.heap[w2.heap.size]? = some (.cells #[.int .i64 (t.kind : Int), .string { data := t.text.toArray }, .int .i64 t.int, .int .i64 (t.op : Int), .int .i64 (t.off : Int), .int .i64 (t.fin : Int)] 62) := by rw [hw3]; exact heap_alloc_new _ _
    have HW3 := Lib.hid hw3
    obtain ⟨b, hb0⟩ : ∃ b, b = w2.heap.size := ⟨_, rfl⟩
    rw [← hb0] at t3 ⊢
    have HB0 := Lib.hid hb0
    obtain ⟨r0, r1, r2, r3, r4, r5, f0, f1, f2, f3, f4, f5⟩ := row6 t3
    clear t3 hw3 hb0
    go_upto_region 3 with fail
    obtain ⟨w4, hw4⟩ : ∃ w4, w4 = w3.alloc (.cells #[.string { data := t.text.toArray }, .slice none 0 0, .int .i64 (t.off : Int)] 32) := ⟨_, rfl⟩
    rw [← hw4]
    have h32 : Below w2.heap.size w2 w4 := by rw [hw4, HW3.out]; exact (up_alloc _ _).alloc (by simp) _
    have hz3 : w3.heap.size = w2.heap.size + 1 := by rw [HW3.out]; simp
    have c4 : w4.heap[w3.heap.size]? = some (.cells #[.string { data := t.text.toArray }, .slice none 0 0, .int .i64 (t.off : Int)] 32) := by rw [hw4]; exact heap_alloc_new _ _
    obtain ⟨c, hc0⟩ : ∃ c, c = w3.heap.size := ⟨_, rfl⟩
    rw [← hc0] at c4 ⊢
    have hin : AtIn w X c v ts f t.text t.off [] a2 w4 := by
      have hz := HZ1.out
      have hz2 := HZ2.out
      refine ⟨HB2.out.trans (Bes.of h32), HR2.out.below h32, ?_, ⟨_, c4, ⟨rfl, .inl ⟨rfl, rfl⟩⟩⟩, hX, by omega⟩
      rw [h32.block _ (by omega)]; exact HQ2.out
    have HIN := Lib.hid hin
    have HD4 := HD2
    clear hw4 h32 hz3 c4 hc0 hin r0 r1 r2 r3 r4 r5 f0 f1 f2 f3 f4 f5 HB0 HW3 HZ2 HZ1 HQ2 HQ1 HB1 HW1
    -- what stands behind the name
    cases r with
    | nil =>
      have HE : Hid (V = .error f) := Lib.hid (by rw [HV.out]; exact Gr.from_alone HK1.out)
      go_wp2_with fail
      refine (peek_none X v ts a2 f _ HD4.out HIN.out.rdr).mono ?_
      rintro e w5 ⟨rfl, hb5⟩
      refine ⟨rfl, (HIN.out.below hb5).bes, ?_⟩
      rw [HE.out]; rfl
    | cons s r =>
      go_wp2_with fail
      refine (peek_some X v ts a2 f _ s r HD4.out HIN.out.rdr).mono ?_
      rintro e w5 ⟨rfl, hb5⟩
      simp only [tkA]
      have HI5 := Lib.hid (HIN.out.below hb5)
      clear hb5
      by_cases h5 : s.kind = 5
      · have e5 : ((s.kind : Int) != 5) = false := by simp; omega
        have HF : Hid (V = Gr.argsFrom f vars t.text t.off [] r) := Lib.hid (by rw [HV.out]; exact Gr.from_start h5 HK1.out)
        obtain ⟨hlt, _, hd3⟩ := drop_at HD4.out
        have hw : IntKind.i64.wrap ((a2 : Int) + 1) = ((a2 + 1 : Nat) : Int) := by rw [IntKind.wrap_i64]; omega
        obtain ⟨c0, c1, c2, c4, fz⟩ := HI5.out.rdr.cells
        have HI6 := Lib.hid (HI5.out.next hlt)
        have HD6 := Lib.hid hd3
        clear h5 hd3
        go_wp2
        clear c0 c1 c2 c4 fz e5 hw
        go_loopw [] (fun wr => ∃ (xs : List Gr.Trm) (q : Nat), Hid (AtIn w X c v ts f t.text t.off xs q wr) ∧ Hid (V = Gr.argsFrom f vars t.text t.off xs (ts.drop q)) ∧ xs.length ≤ 8) (fun wr => ts.length - atOf wr X)
        case atStart => exact ⟨[], a2 + 1, HI6, Lib.hid (by rw [HF.out, HD6.out]), by simp⟩
        case round =>
          obtain ⟨xs, q, HI, HQ, hn8⟩ := hrel
          clear HI6 HD6 HF HI5 HIN HD4 HD2 HV
          have HA := Lib.hid HI.out.rdr.atOf
          obtain ⟨sl, hblk, hown⟩ := HI.out.blk
          obtain ⟨sa, sc, rfl⟩ : ∃ sa sc, sl = .slice sa xs.length sc := by
            rcases Joins.ownsRow_forms hown with ⟨h5, h6⟩ | ⟨g, cap, h5⟩
            · exact ⟨none, 0, by rw [h5, h6]⟩
            · exact ⟨_, cap, h5⟩
          obtain ⟨s0, s1, s2, g0, g1, g2⟩ := row32 hblk
          have HBK := Lib.hid hblk
          have HOW := Lib.hid hown
          clear hblk hown
          by_cases h8 : xs.length ≥ 8
          · have e8 : decide ((xs.length : Int) ≥ 8) = true := decide_eq_true (by omega)
            have e8' : decide (8 ≤ xs.length) = true := decide_eq_true (by omega)
            cases hd : ts.drop q with
            | nil =>
              have HE : Hid (V = .error f) := Lib.hid (by rw [HQ.out, hd]; exact Gr.from_none)
              have HD := Lib.hid hd
              clear hd h8 hn8
              go_wp2_with fail
              refine (peek_none X v ts q f _ HD.out HI.out.rdr).mono ?_
              rintro e w5 ⟨rfl, hb5⟩
              refine ⟨rfl, (HI.out.below hb5).bes, ?_⟩
              rw [HE.out]; rfl
            | cons t2 r2 =>
              have HD := Lib.hid hd
              cases hv : Gr.isT vars t2.kind with
              | true =>
                have HE : Hid (V = .error (22, t2.off)) := Lib.hid (by rw [HQ.out, hd]; exact Gr.from_many h8 hv)
                have HV2 := Lib.hid hv
                clear hd h8 hn8 hv
                go_wp2_with fail
                refine (peek_some X v ts q f _ t2 r2 HD.out HI.out.rdr).mono ?_
                rintro e w5 ⟨rfl, hb5⟩
                simp only [tkA]
                have HI5' := Lib.hid (HI.out.below hb5)
                clear hb5
                go_wp2_with fail
                refine (isTerm_any t2.kind vars _).mono ?_
                rintro e w6 ⟨rfl, hq⟩
                rw [hq, HV2.out]
                clear hq w6
                go_wp2_with fail
                refine (stop_some X v ts q f _ t2 r2 22 HD.out HI5'.out.rdr).mono ?_
                rintro e w6 ⟨rfl, hb6⟩
                refine ⟨rfl, (HI5'.out.below hb6).bes, ?_⟩
                rw [HE.out]; rfl
              | false =>
                have HV2 := Lib.hid hv
                obtain ⟨F, hF⟩ : ∃ F, F = Gr.ref t2 := ⟨_, rfl⟩
                have HVE : Hid (V = .error F) := Lib.hid (by rw [HQ.out, hd, hF]; exact Gr.from_bad hv)
                have HTE : Hid (Gr.termP f vars (ts.drop q) = .error F) := Lib.hid (by rw [hd, hF]; simp [Gr.termP, hv])
                clear hd h8 hn8 hv hF
                go_wp2_with fail
                refine (peek_some X v ts q f _ t2 r2 HD.out HI.out.rdr).mono ?_
                rintro e w6 ⟨rfl, hb5⟩
                simp only [tkA]
                have HI6 := Lib.hid (HI.out.below hb5)
                have hblk6 : w6.heap[c]? = some (.cells #[.string ⟨t.text.toArray⟩, .slice sa xs.length sc, .int .i64 (t.off : Int)] 32) := Kt.below (T := fun _ => True) hb5 _ _ _ HBK.out trivial
                clear hb5 s0 s1 s2 g0 g1 g2
                obtain ⟨s0, s1, s2, g0, g1, g2⟩ := row32 hblk6
                clear hblk6
                go_wp2_with fail
                refine (isTerm_any t2.kind vars _).mono ?_
                rintro e w7 ⟨rfl, hq⟩
                rw [hq, HV2.out]
                clear hq w7
                go_upto_region 8 with fail
                have HIZ := Lib.hid (HI6.out.below (drew_below _ _))
                refine wp_region_T (fun x => x.cell? ⟨c, 1, none⟩ = some (.slice sa xs.length sc)) 8 (by kernel_rfl) ?_
                have hS : w6.drew.cell? ⟨c, 1, none⟩ = some (.slice sa xs.length sc) := s1
                refine wpAnyT_tk 0 _ ?_ rfl rfl (by kernel_rfl) (fun _ _ _ h => h) (by assumption) (Or.inl ⟨by rfl, fun x hx => ?_⟩) ?_
                rotate_left
                · have hx2 : x.cell? ⟨c, 1, none⟩ = some (.slice sa xs.length sc) := hx
                  clear hx
                  go_simp
                  try with_reducible rfl
                try simp only [Act.put, List.setIfInBounds_toArray, List.set_cons_zero, List.set_cons_succ]
                refine wpAnyT_tk 1 _ ?_ rfl rfl (by kernel_rfl) (fun _ _ _ h => h) (by assumption) (Or.inl ⟨by rfl, fun x hx => ?_⟩) ?_
                rotate_left
                · have hx2 : x.cell? ⟨c, 1, none⟩ = some (.slice sa xs.length sc) := hx
                  clear hx
                  go_simp
                  try with_reducible rfl
                try simp only [Act.put, List.setIfInBounds_toArray, List.set_cons_zero, List.set_cons_succ]
                refine wpAnyT_tk 2 _ ?_ rfl rfl (by kernel_rfl) (fun _ _ _ h => h) (by assumption) (Or.inl ⟨by rfl, fun x hx => ?_⟩) ?_
                rotate_left
                · have hx2 : x.cell? ⟨c, 1, none⟩ = some (.slice sa xs.length sc) := hx
                  clear hx
                  go_simp
                  try with_reducible rfl
                try simp only [Act.put, List.setIfInBounds_toArray, List.set_cons_zero, List.set_cons_succ]
                refine wpAnyT_tk 3 _ ?_ rfl rfl (by kernel_rfl) (fun _ _ _ h => h) (by assumption) (Or.inl ⟨by rfl, fun x hx => ?_⟩) ?_
                rotate_left
                · have hx2 : x.cell? ⟨c, 1, none⟩ = some (.slice sa xs.length sc) := hx
                  clear hx
                  go_simp
                  try with_reducible rfl
                try simp only [Act.put, List.setIfInBounds_toArray, List.set_cons_zero, List.set_cons_succ]
                refine wpAnyT_one 4 rfl (by kernel_rfl) (fun K' hK' => ?_)
                go_simp
                go_at_call 47
                refine (term_any X v ts q f _ vars HIZ.out.rdr).mono ?_
                rintro e w7 ⟨hb7, he7⟩
                rw [HTE.out] at he7
                have he7 : e = gvE F := he7
                subst he7
                refine ⟨rfl, HIZ.out.bes.trans hb7, ?_⟩
                rw [HVE.out]; rfl
          · have e8 : decide ((xs.length : Int) ≥ 8) = false := decide_eq_false (by omega)
            have e8' : decide (8 ≤ xs.length) = false := decide_eq_false (by omega)
            obtain ⟨w6, hw6⟩ : ∃ w6, w6 = wr := ⟨_, rfl⟩
            rw [← hw6] at HI HBK HOW HA s0 s1 s2 g0 g1 g2 ⊢
            clear hw6
            have HI6 := HI
            cases hte : Gr.termP f vars (ts.drop q) with
            | error F =>
              have HTE := Lib.hid hte
              have HVE : Hid (V = .error F) := Lib.hid (by
                rw [HQ.out]
                cases hd : ts.drop q with
                | nil => rw [hd] at hte; simp [Gr.termP] at hte; rw [← hte]; exact Gr.from_none
                | cons t2 r2 =>
                  rw [hd] at hte
                  cases hv : Gr.isT vars t2.kind with
                  | true => simp [Gr.termP, hv] at hte
                  | false => simp [Gr.termP, hv] at hte; rw [← hte]; exact Gr.from_bad hv)
              clear hte h8 hn8
              go_upto_region 8 with fail
              have HIZ := Lib.hid (HI6.out.below (drew_below _ _))
              refine wp_region_T (fun x => x.cell? ⟨c, 1, none⟩ = some (.slice sa xs.length sc)) 8 (by kernel_rfl) ?_
              have hS : w6.drew.cell? ⟨c, 1, none⟩ = some (.slice sa xs.length sc) := s1
              refine wpAnyT_tk 0 _ ?_ rfl rfl (by kernel_rfl) (fun _ _ _ h => h) (by assumption) (Or.inl ⟨by rfl, fun x hx => ?_⟩) ?_
              rotate_left
              · have hx2 : x.cell? ⟨c, 1, none⟩ = some (.slice sa xs.length sc) := hx
                clear hx
                go_simp
                try with_reducible rfl
              try simp only [Act.put, List.setIfInBounds_toArray, List.set_cons_zero, List.set_cons_succ]
              refine wpAnyT_tk 1 _ ?_ rfl rfl (by kernel_rfl) (fun _ _ _ h => h) (by assumption) (Or.inl ⟨by rfl, fun x hx => ?_⟩) ?_
              rotate_left
              · have hx2 : x.cell? ⟨c, 1, none⟩ = some (.slice sa xs.length sc) := hx
                clear hx
                go_simp
                try with_reducible rfl
              try simp only [Act.put, List.setIfInBounds_toArray, List.set_cons_zero, List.set_cons_succ]
              refine wpAnyT_tk 2 _ ?_ rfl rfl (by kernel_rfl) (fun _ _ _ h => h) (by assumption) (Or.inl ⟨by rfl, fun x hx => ?_⟩) ?_
              rotate_left
              · have hx2 : x.cell? ⟨c, 1, none⟩ = some (.slice sa xs.length sc) := hx
                clear hx
                go_simp
                try with_reducible rfl
              try simp only [Act.put, List.setIfInBounds_toArray, List.set_cons_zero, List.set_cons_succ]
              refine wpAnyT_tk 3 _ ?_ rfl rfl (by kernel_rfl) (fun _ _ _ h => h) (by assumption) (Or.inl ⟨by rfl, fun x hx => ?_⟩) ?_
              rotate_left
              · have hx2 : x.cell? ⟨c, 1, none⟩ = some (.slice sa xs.length sc) := hx
                clear hx
                go_simp
                try with_reducible rfl
              try simp only [Act.put, List.setIfInBounds_toArray, List.set_cons_zero, List.set_cons_succ]
              refine wpAnyT_one 4 rfl (by kernel_rfl) (fun K' hK' => ?_)
              go_simp
              go_at_call 47
              refine (term_any X v ts q f _ vars HIZ.out.rdr).mono ?_
              rintro e w7 ⟨hb7, he7⟩
              rw [HTE.out] at he7
              have he7 : e = gvE F := he7
              subst he7
              refine ⟨rfl, HIZ.out.bes.trans hb7, ?_⟩
              rw [HVE.out]; rfl
            | ok xr =>
              obtain ⟨x, r2⟩ := xr
              have HTE := Lib.hid hte
              obtain ⟨t2, hd2, hx2, hv2⟩ : ∃ t2, ts.drop q = t2 :: r2 ∧ x = Gr.trm t2 ∧ Gr.isT vars t2.kind = true := by
                cases hd : ts.drop q with
                | nil => rw [hd] at hte; simp [Gr.termP] at hte
                | cons t2 r3 =>
                  rw [hd] at hte
                  cases hv : Gr.isT vars t2.kind with
                  | true => simp [Gr.termP, hv] at hte; exact ⟨t2, by rw [hte.2], hte.1.symm, hv⟩
                  | false => simp [Gr.termP, hv] at hte
              have HT2 : Hid (ts.drop q = t2 :: r2 ∧ x = Gr.trm t2 ∧ Gr.isT vars t2.kind = true ∧ ¬ xs.length ≥ 8) := Lib.hid ⟨hd2, hx2, hv2, h8⟩
              clear hte hd2 hx2 hv2 h8
              go_upto_region 8 with fail
              have HIZ := Lib.hid (HI6.out.below (drew_below _ _))
              refine wp_region_T (fun x => x.cell? ⟨c, 1, none⟩ = some (.slice sa xs.length sc)) 8 (by kernel_rfl) ?_
              have hS : w6.drew.cell? ⟨c, 1, none⟩ = some (.slice sa xs.length sc) := s1
              refine wpAnyT_tk 0 _ ?_ rfl rfl (by kernel_rfl) (fun _ _ _ h => h) (by assumption) (Or.inl ⟨by rfl, fun x hx => ?_⟩) ?_
              rotate_left
              · have hx2 : x.cell? ⟨c, 1, none⟩ = some (.slice sa xs.length sc) := hx
                clear hx
                go_simp
                try with_reducible rfl
              try simp only [Act.put, List.setIfInBounds_toArray, List.set_cons_zero, List.set_cons_succ]
              refine wpAnyT_tk 1 _ ?_ rfl rfl (by kernel_rfl) (fun _ _ _ h => h) (by assumption) (Or.inl ⟨by rfl, fun x hx => ?_⟩) ?_
              rotate_left
              · have hx2 : x.cell? ⟨c, 1, none⟩ = some (.slice sa xs.length sc) := hx
                clear hx
                go_simp
                try with_reducible rfl
              try simp only [Act.put, List.setIfInBounds_toArray, List.set_cons_zero, List.set_cons_succ]
              refine wpAnyT_tk 2 _ ?_ rfl rfl (by kernel_rfl) (fun _ _ _ h => h) (by assumption) (Or.inl ⟨by rfl, fun x hx => ?_⟩) ?_
              rotate_left
              · have hx2 : x.cell? ⟨c, 1, none⟩ = some (.slice sa xs.length sc) := hx
                clear hx
                go_simp
                try with_reducible rfl
              try simp only [Act.put, List.setIfInBounds_toArray, List.set_cons_zero, List.set_cons_succ]
              refine wpAnyT_tk 3 _ ?_ rfl rfl (by kernel_rfl) (fun _ _ _ h => h) (by assumption) (Or.inl ⟨by rfl, fun x hx => ?_⟩) ?_
              rotate_left
              · have hx2 : x.cell? ⟨c, 1, none⟩ = some (.slice sa xs.length sc) := hx
                clear hx
                go_simp
                try with_reducible rfl
              try simp only [Act.put, List.setIfInBounds_toArray, List.set_cons_zero, List.set_cons_succ]
              refine wpAnyT_one 4 rfl (by kernel_rfl) (fun K' hK' => ?_)
              go_simp
              go_at_call 47
              refine (term_any X v ts q f _ vars HIZ.out.rdr).mono ?_
              rintro e w7 ⟨hb7, he7⟩
              rw [HTE.out] at he7
              obtain ⟨u7, q7, hu7, he7, hR7, hd7⟩ := he7
              have hu7 : u7 = trmA x := hu7
              subst hu7
              subst he7
              have HI7 := Lib.hid (HIZ.out.turn hb7 hR7)
              have k7 : Kt (fun t => t ≠ 90) w6.drew w7 := Kt.bes hb7 HIZ.out.rdr.row (by simp)
              have hblk7 : w7.heap[c]? = some (.cells #[.string ⟨t.text.toArray⟩, .slice sa xs.length sc, .int .i64 (t.off : Int)] 32) := k7 _ _ _ HBK.out (by decide)
              have hown7 : w7.ownsRow w.heap.size 59 4 (.slice sa xs.length sc) xs.length (flatX xs) := k7.own (by decide) HOW.out
              have hS7 := (row32 hblk7).2.1
              have hS7a : (w7.alloc (.cells #[.int .i64 (x.kind : Int), .int .i64 x.int, .string ⟨x.text.toArray⟩, .int .i64 (x.off : Int)] 59)).cell? ⟨c, 1, none⟩ = some (.slice sa xs.length sc) := (row32 (Kt.alloc (T := fun _ => True) w7 _ _ _ _ hblk7 trivial)).2.1
              have HBK7 := Lib.hid hblk7
              have HOW7 := Lib.hid hown7
              have HD7 := Lib.hid hd7
              clear hb7 hR7 k7 hblk7 hown7 hd7 s0 s1 s2 g0 g1 g2 hS
              simp only [trmA]
              refine hK' _ _ (fun _ => hS7) ?_
              clear hK' K'
              try simp only [Act.put, List.setIfInBounds_toArray, List.set_cons_zero, List.set_cons_succ]
              refine wpAnyT_one 5 rfl (by kernel_rfl) (fun K' hK' => ?_)
              go_simp
              refine hK' _ _ (fun _ => hS7a) ?_
              clear hK' K'
              try simp only [Act.put, List.setIfInBounds_toArray, List.set_cons_zero, List.set_cons_succ]
              refine wpAnyT_one 6 rfl (by kernel_rfl) (fun K' hK' => ?_)
              refine step_append_own _ (by rfl) _ _ 30 (by rfl) w.heap.size 59 i59 (.agg #[.int .i64 0, .int .i64 0, .string noS, .int .i64 0]) 4 40 Tryz.underlying30 bi b0 b1 b2 rfl (by decide) (.slice sa xs.length sc) xs.length (flatX xs) (by rfl) (by exact HOW7.out.alloc _) ⟨w7.heap.size, 0, none⟩ 1 1 (trmL x) (by rfl) (by rfl) (World.news_of_block (cs := #[.int .i64 (x.kind : Int), .int .i64 x.int, .string ⟨x.text.toArray⟩, .int .i64 (x.off : Int)]) (t := 59) (fr := (0, 0)) (heap_alloc_new w7 _)) (trmL_one x) (by unfold maxLen; omega) (by omega) (by have := HI7.out.bes.size; simp; omega) ?_
              intro v8 w8 hown8 hgrow8 _
              obtain ⟨g8, c8, rfl⟩ := Joins.ownsRow_form hown8 (by omega)
              have HM := Lib.hid (HI7.out.more HBK7.out HOW7.out hgrow8 hown8)
              have hS8 := (row32 HM.out.2).2.1
              have hF8 := (row32 HM.out.2).2.2.2.2.1
              clear hown8 hgrow8 hS7 hS7a
              refine hK' _ _ (fun _ => hS8) ?_
              clear hK' K'
              try simp only [Act.put, List.setIfInBounds_toArray, List.set_cons_zero, List.set_cons_succ]
              refine wpAnyT_one 7 rfl (by kernel_rfl) (fun K' hK' => ?_)
              go_simp
              refine hK' _ _ (fun _ => hS8) ?_
              clear hK' K'
              try simp only [Act.put, List.setIfInBounds_toArray, List.set_cons_zero, List.set_cons_succ]
              refine wpAnyT_one 8 rfl (by kernel_rfl) (fun K' hK' => ?_)
              go_simp
              refine hK' _ _ (fun h => absurd rfl h) ?_
              clear hK' K'
              try simp only [Act.put, List.setIfInBounds_toArray, List.set_cons_zero, List.set_cons_succ]
              refine wpAnyT_done (by kernel_rfl) ?_ _
              clear hS8 hF8
              obtain ⟨w9, hw9⟩ : ∃ w9, w9 = w8.setCell ⟨c, 1, none⟩ (.slice (some ⟨g8, 0, none⟩) (xs.length + 1) c8) := ⟨_, rfl⟩
              rw [← hw9]
              have HI9 : Hid (AtIn w X c v ts f t.text t.off (xs ++ [x]) q7 w9) := Lib.hid (by rw [hw9]; exact HM.out.1)
              clear hw9 HM HBK7 HOW7 HI7
              have HQ7 : Hid (q7 = q + 1) := Lib.hid (drop_next HT2.out.1 HD7.out HI9.out.rdr.le)
              cases r2 with
              | nil =>
                have HE : Hid (V = .error f) := Lib.hid (by rw [HQ.out, HT2.out.1]; exact Gr.from_end HT2.out.2.2.2 HT2.out.2.2.1)
                go_wp2_with fail
                refine (peek_none X v ts q7 f _ HD7.out HI9.out.rdr).mono ?_
                rintro e w10 ⟨rfl, hb10⟩
                refine ⟨rfl, (HI9.out.below hb10).bes, ?_⟩
                rw [HE.out]; rfl
              | cons s2 r3 =>
                go_wp2_with fail
                refine (peek_some X v ts q7 f _ s2 r3 HD7.out HI9.out.rdr).mono ?_
                rintro e w10 ⟨rfl, hb10⟩
                simp only [tkA]
                have HI10 := Lib.hid (HI9.out.below hb10)
                clear hb10
                have hlt7 := (drop_at HD7.out).1
                have HD8 := Lib.hid (drop_at HD7.out).2.2
                have hw : IntKind.i64.wrap ((q7 : Int) + 1) = ((q7 + 1 : Nat) : Int) := by rw [IntKind.wrap_i64]; omega
                obtain ⟨c0, c1, c2, c4, fz⟩ := HI10.out.rdr.cells
                by_cases h7 : s2.kind = 7
                · have e7 : ((s2.kind : Int) == 7) = true := by simp; omega
                  have HQN : Hid (V = Gr.argsFrom f vars t.text t.off (xs ++ [x]) (ts.drop (q7 + 1))) := Lib.hid (by rw [HQ.out, HT2.out.1, HT2.out.2.1, HD8.out]; exact Gr.from_comma HT2.out.2.2.2 HT2.out.2.2.1 h7)
                  have HI11 := Lib.hid (HI10.out.next hlt7)
                  clear h7
                  go_wp2
                  go_roundw
                  case rel => exact ⟨xs ++ [x], q7 + 1, HI11, HQN, by have := HT2.out.2.2.2; simp; omega⟩
                  case measure => exact rdr_less HA.out HI11.out.rdr (by have := HQ7.out; omega) rfl
                · have e7 : ((s2.kind : Int) == 7) = false := by simp; omega
                  by_cases h6 : s2.kind = 6
                  · have e6 : ((s2.kind : Int) == 6) = true := by simp; omega
                    have HE : Hid (V = .ok (⟨t.text, xs ++ [x], t.off⟩, r3)) := Lib.hid (by rw [HQ.out, HT2.out.1, HT2.out.2.1]; exact Gr.from_close HT2.out.2.2.2 HT2.out.2.2.1 h6)
                    have HI11 := Lib.hid (HI10.out.next hlt7)
                    clear h7 h6
                    go_upto_region 15 with fail
                    obtain ⟨w11, hw11⟩ : ∃ w11, w11 = w10.setCell ⟨X, 1, none⟩ (.int .i64 ((q7 : Int) + 1)) := ⟨_, rfl⟩
                    rw [← hw11] at HI11 ⊢
                    clear hw11 c0 c1 c2 c4 fz
                    obtain ⟨sl, hblk, hown⟩ := HI11.out.blk
                    obtain ⟨ea, ec, rfl⟩ : ∃ ea ec, sl = .slice ea (xs ++ [x]).length ec := by
                      rcases Joins.ownsRow_forms hown with ⟨h5, h6⟩ | ⟨g, cap, h5⟩
                      · exact ⟨none, 0, by rw [h5]; rw [h6]⟩
                      · exact ⟨_, cap, h5⟩
                    obtain ⟨ln, hln⟩ : ∃ ln, ln = (xs ++ [x]).length := ⟨_, rfl⟩
                    rw [← hln] at hblk hown
                    have HLN := Lib.hid hln
                    clear hln
                    obtain ⟨e0, e1, e2, z0, z1, z2⟩ := row32 hblk
                    obtain ⟨y0, y1, y2, k0, k1, k2⟩ := row32 HI11.out.res
                    have HH := Lib.hid (tri_set (x0 := .string { data := t.text.toArray }) (x1 := .slice ea ln ec) (x2 := .int .i64 (t.off : Int)) HI11.out.res)
                    have HBZ := Lib.hid (tri_bes (x0 := .string { data := t.text.toArray }) (x1 := .slice ea ln ec) (x2 := .int .i64 (t.off : Int)) HI11.out.bes (Nat.le_refl _))
                    have HRZ := Lib.hid (hR.turn HBZ.out (q := (q7 + 1)) (by rw [tri_oth (by omega)]; exact HI11.out.rdr.row) HI11.out.rdr.le)
                    have HOZ := Lib.hid ((tri_kt (T := fun t => t = 59) (x0 := .string { data := t.text.toArray }) (x1 := .slice ea ln ec) (x2 := .int .i64 (t.off : Int)) HI11.out.res (by decide)).own rfl hown)
                    clear hblk hown
                    go_wp2
                    refine bodyPost_ret (results_cell_row rfl _ _ w.heap.size 32 #[.string { data := t.text.toArray }, .slice ea ln ec, .int .i64 (t.off : Int)] (0, 0) _ rfl HH.out Tryz.underlying32 rfl Tryz.size_32) rfl ?_
                    refine ⟨HBZ.out, ?_⟩
                    rw [HE.out]
                    exact ⟨_, (q7 + 1), ⟨.slice ea ln ec, rfl, by have := HOZ.out; rw [HLN.out] at this ⊢; exact this⟩, rfl, HRZ.out, HD8.out⟩
                  · have e6 : ((s2.kind : Int) == 6) = false := by simp; omega
                    have HE : Hid (V = .error (Gr.ref s2)) := Lib.hid (by rw [HQ.out, HT2.out.1]; exact Gr.from_other HT2.out.2.2.2 HT2.out.2.2.1 h7 h6)
                    clear h7 h6
                    go_wp2_with fail
                    refine (refuse_some X v ts q7 f _ s2 r3 HD7.out HI10.out.rdr).mono ?_
                    rintro e w12 ⟨rfl, hb12⟩
                    refine ⟨rfl, (HI10.out.below hb12).bes, ?_⟩
                    rw [HE.out]; rfl
      · have e5 : ((s.kind : Int) != 5) = true := by simp; omega
        have HE : Hid (V = .ok (⟨t.text, [], t.off⟩, s :: r)) := Lib.hid (by rw [HV.out]; exact Gr.from_bare h5 HK1.out)
        clear h5
        obtain ⟨sl, hblk, hown⟩ := HI5.out.blk
        obtain ⟨ea, ec, rfl⟩ : ∃ ea ec, sl = .slice ea ([] : List Gr.Trm).length ec := by
          rcases Joins.ownsRow_forms hown with ⟨h5, h6⟩ | ⟨g, cap, h5⟩
          · exact ⟨none, 0, by rw [h5]; rw [h6]⟩
          · exact ⟨_, cap, h5⟩
        obtain ⟨ln, hln⟩ : ∃ ln, ln = ([] : List Gr.Trm).length := ⟨_, rfl⟩
        rw [← hln] at hblk hown
        have HLN := Lib.hid hln
        clear hln
        obtain ⟨e0, e1, e2, z0, z1, z2⟩ := row32 hblk
        obtain ⟨y0, y1, y2, k0, k1, k2⟩ := row32 HI5.out.res
        have HH := Lib.hid (tri_set (x0 := .string { data := t.text.toArray }) (x1 := .slice ea ln ec) (x2 := .int .i64 (t.off : Int)) HI5.out.res)
        have HBZ := Lib.hid (tri_bes (x0 := .string { data := t.text.toArray }) (x1 := .slice ea ln ec) (x2 := .int .i64 (t.off : Int)) HI5.out.bes (Nat.le_refl _))
        have HRZ := Lib.hid (hR.turn HBZ.out (q := a2) (by rw [tri_oth (by omega)]; exact HI5.out.rdr.row) HI5.out.rdr.le)
        have HOZ := Lib.hid ((tri_kt (T := fun t => t = 59) (x0 := .string { data := t.text.toArray }) (x1 := .slice ea ln ec) (x2 := .int .i64 (t.off : Int)) HI5.out.res (by decide)).own rfl hown)
        clear hblk hown
        go_wp2
        refine bodyPost_ret (results_cell_row rfl _ _ w.heap.size 32 #[.string { data := t.text.toArray }, .slice ea ln ec, .int .i64 (t.off : Int)] (0, 0) _ rfl HH.out Tryz.underlying32 rfl Tryz.size_32) rfl ?_
        refine ⟨HBZ.out, ?_⟩
        rw [HE.out]
        exact ⟨_, a2, ⟨.slice ea ln ec, rfl, by have := HOZ.out; rw [HLN.out] at this ⊢; exact this⟩, rfl, HRZ.out, HD4.out⟩
end Go.Proofs.YtncdjkdpoinfaaaGreatDoor
/-
  A literal's block. No condition beyond those that each lemma states.
-/
namespace Go.Proofs.YtncdjkdpoinfaaaGreatDoor
open Go.RowKit Go.Shelf Pl

theorem Tryz.size101 : (Tryz.prog.info? 101).map (·.size) = some 14 := by kernel_rfl
theorem lit_set {w : World} {R : Nat} {x0 x1 x2 x3 x4 x5 x6 x7 x8 x9 x10 x11 x12 x13 u0 u1 u2 u3 u4 u5 u6 u7 u8 u9 u10 u11 u12 u13 : Value} (h : w.heap[R]? = some (.cells #[u0, u1, u2, u3, u4, u5, u6, u7, u8, u9, u10, u11, u12, u13] 101)) :
    ((((((((((((((w.setCell ⟨R, 0, none⟩ x0).setCell ⟨R, 1, none⟩ x1).setCell ⟨R, 2, none⟩ x2).setCell ⟨R, 3, none⟩ x3).setCell ⟨R, 4, none⟩ x4).setCell ⟨R, 5, none⟩ x5).setCell ⟨R, 6, none⟩ x6).setCell ⟨R, 7, none⟩ x7).setCell ⟨R, 8, none⟩ x8).setCell ⟨R, 9, none⟩ x9).setCell ⟨R, 10, none⟩ x10).setCell ⟨R, 11, none⟩ x11).setCell ⟨R, 12, none⟩ x12).setCell ⟨R, 13, none⟩ x13).heap[R]? = some (.cells #[x0, x1, x2, x3, x4, x5, x6, x7, x8, x9, x10, x11, x12, x13] 101) := by
  simp [World.setCell, Array.getElem?_modify, h]
theorem lit_bes {w0 w : World} {X R : Nat} {x0 x1 x2 x3 x4 x5 x6 x7 x8 x9 x10 x11 x12 x13 : Value} (h : Bes X w0 w) (hR : w0.heap.size ≤ R) :
    Bes X w0 ((((((((((((((w.setCell ⟨R, 0, none⟩ x0).setCell ⟨R, 1, none⟩ x1).setCell ⟨R, 2, none⟩ x2).setCell ⟨R, 3, none⟩ x3).setCell ⟨R, 4, none⟩ x4).setCell ⟨R, 5, none⟩ x5).setCell ⟨R, 6, none⟩ x6).setCell ⟨R, 7, none⟩ x7).setCell ⟨R, 8, none⟩ x8).setCell ⟨R, 9, none⟩ x9).setCell ⟨R, 10, none⟩ x10).setCell ⟨R, 11, none⟩ x11).setCell ⟨R, 12, none⟩ x12).setCell ⟨R, 13, none⟩ x13) :=
  ((((((((((((((h.set (.inr hR) _).set (.inr hR) _).set (.inr hR) _).set (.inr hR) _).set (.inr hR) _).set (.inr hR) _).set (.inr hR) _).set (.inr hR) _).set (.inr hR) _).set (.inr hR) _).set (.inr hR) _).set (.inr hR) _).set (.inr hR) _).set (.inr hR) _)
theorem lit_oth {w : World} {k R : Nat} {x0 x1 x2 x3 x4 x5 x6 x7 x8 x9 x10 x11 x12 x13 : Value} (h : k ≠ R) :
    ((((((((((((((w.setCell ⟨R, 0, none⟩ x0).setCell ⟨R, 1, none⟩ x1).setCell ⟨R, 2, none⟩ x2).setCell ⟨R, 3, none⟩ x3).setCell ⟨R, 4, none⟩ x4).setCell ⟨R, 5, none⟩ x5).setCell ⟨R, 6, none⟩ x6).setCell ⟨R, 7, none⟩ x7).setCell ⟨R, 8, none⟩ x8).setCell ⟨R, 9, none⟩ x9).setCell ⟨R, 10, none⟩ x10).setCell ⟨R, 11, none⟩ x11).setCell ⟨R, 12, none⟩ x12).setCell ⟨R, 13, none⟩ x13).heap[k]? = w.heap[k]? := by
  rw [Below.heap_setCell _ _ _ _ h, Below.heap_setCell _ _ _ _ h, Below.heap_setCell _ _ _ _ h, Below.heap_setCell _ _ _ _ h, Below.heap_setCell _ _ _ _ h, Below.heap_setCell _ _ _ _ h, Below.heap_setCell _ _ _ _ h, Below.heap_setCell _ _ _ _ h, Below.heap_setCell _ _ _ _ h, Below.heap_setCell _ _ _ _ h, Below.heap_setCell _ _ _ _ h, Below.heap_setCell _ _ _ _ h, Below.heap_setCell _ _ _ _ h, Below.heap_setCell _ _ _ _ h]
theorem lit_kt {T : TypeId → Prop} {w : World} {R : Nat} {x0 x1 x2 x3 x4 x5 x6 x7 x8 x9 x10 x11 x12 x13 u0 u1 u2 u3 u4 u5 u6 u7 u8 u9 u10 u11 u12 u13 : Value} (h : w.heap[R]? = some (.cells #[u0, u1, u2, u3, u4, u5, u6, u7, u8, u9, u10, u11, u12, u13] 101)) (hT : ¬ T 101) :
    Kt T w ((((((((((((((w.setCell ⟨R, 0, none⟩ x0).setCell ⟨R, 1, none⟩ x1).setCell ⟨R, 2, none⟩ x2).setCell ⟨R, 3, none⟩ x3).setCell ⟨R, 4, none⟩ x4).setCell ⟨R, 5, none⟩ x5).setCell ⟨R, 6, none⟩ x6).setCell ⟨R, 7, none⟩ x7).setCell ⟨R, 8, none⟩ x8).setCell ⟨R, 9, none⟩ x9).setCell ⟨R, 10, none⟩ x10).setCell ⟨R, 11, none⟩ x11).setCell ⟨R, 12, none⟩ x12).setCell ⟨R, 13, none⟩ x13) := fun k c t e ht => by
  rw [lit_oth (fun hk => by rw [hk, h] at e; simp at e; exact hT (by rw [e.2]; exact ht))]; exact e
theorem lit_op {w : World} {R : Nat} {x4 u0 u1 u2 u3 u4 u5 u6 u7 u8 u9 u10 u11 u12 u13 : Value} (h : w.heap[R]? = some (.cells #[u0, u1, u2, u3, u4, u5, u6, u7, u8, u9, u10, u11, u12, u13] 101)) :
    (w.setCell ⟨R, 4, none⟩ x4).heap[R]? = some (.cells #[u0, u1, u2, u3, x4, u5, u6, u7, u8, u9, u10, u11, u12, u13] 101) := by
  simp [World.setCell, Array.getElem?_modify, h]
theorem lit_right {w : World} {R : Nat} {x9 x10 x11 x12 u0 u1 u2 u3 u4 u5 u6 u7 u8 u9 u10 u11 u12 u13 : Value} (h : w.heap[R]? = some (.cells #[u0, u1, u2, u3, u4, u5, u6, u7, u8, u9, u10, u11, u12, u13] 101)) :
    ((((w.setCell ⟨R, 9, none⟩ x9).setCell ⟨R, 10, none⟩ x10).setCell ⟨R, 11, none⟩ x11).setCell ⟨R, 12, none⟩ x12).heap[R]? = some (.cells #[u0, u1, u2, u3, u4, u5, u6, u7, u8, x9, x10, x11, x12, u13] 101) := by
  simp [World.setCell, Array.getElem?_modify, h]
theorem row101 {w : World} {B : Nat} {x0 x1 x2 x3 x4 x5 x6 x7 x8 x9 x10 x11 x12 x13 : Value} (h : w.heap[B]? = some (.cells #[x0, x1, x2, x3, x4, x5, x6, x7, x8, x9, x10, x11, x12, x13] 101)) :
    w.cell? ⟨B, 0, none⟩ = some x0 ∧ w.cell? ⟨B, 1, none⟩ = some x1 ∧ w.cell? ⟨B, 2, none⟩ = some x2 ∧ w.cell? ⟨B, 3, none⟩ = some x3 ∧ w.cell? ⟨B, 4, none⟩ = some x4 ∧ w.cell? ⟨B, 5, none⟩ = some x5 ∧ w.cell? ⟨B, 6, none⟩ = some x6 ∧ w.cell? ⟨B, 7, none⟩ = some x7 ∧ w.cell? ⟨B, 8, none⟩ = some x8 ∧ w.cell? ⟨B, 9, none⟩ = some x9 ∧ w.cell? ⟨B, 10, none⟩ = some x10 ∧ w.cell? ⟨B, 11, none⟩ = some x11 ∧ w.cell? ⟨B, 12, none⟩ = some x12 ∧ w.cell? ⟨B, 13, none⟩ = some x13 ∧ w.frozen? ⟨B, 0, none⟩ = false ∧ w.frozen? ⟨B, 1, none⟩ = false ∧ w.frozen? ⟨B, 2, none⟩ = false ∧ w.frozen? ⟨B, 3, none⟩ = false ∧ w.frozen? ⟨B, 4, none⟩ = false ∧ w.frozen? ⟨B, 5, none⟩ = false ∧ w.frozen? ⟨B, 6, none⟩ = false ∧ w.frozen? ⟨B, 7, none⟩ = false ∧ w.frozen? ⟨B, 8, none⟩ = false ∧ w.frozen? ⟨B, 9, none⟩ = false ∧ w.frozen? ⟨B, 10, none⟩ = false ∧ w.frozen? ⟨B, 11, none⟩ = false ∧ w.frozen? ⟨B, 12, none⟩ = false ∧ w.frozen? ⟨B, 13, none⟩ = false := by
  refine ⟨?_, ?_, ?_, ?_, ?_, ?_, ?_, ?_, ?_, ?_, ?_, ?_, ?_, ?_, ?_, ?_, ?_, ?_, ?_, ?_, ?_, ?_, ?_, ?_, ?_, ?_, ?_, ?_⟩ <;> simp only [World.cell?, World.frozen?, h] <;> rfl
/-- A literal's cells. -/
def litL (x : Gr.Lit) (sl : Value) : List Value := [.int .i64 (x.kind : Int), .string ⟨x.atom.pred.toArray⟩, sl, .int .i64 (x.atom.off : Int), .int .i64 (x.op : Int), .int .i64 (x.left.kind : Int), .int .i64 x.left.int, .string ⟨x.left.text.toArray⟩, .int .i64 (x.left.off : Int),
  .int .i64 (x.right.kind : Int), .int .i64 x.right.int, .string ⟨x.right.text.toArray⟩, .int .i64 (x.right.off : Int), .int .i64 (x.off : Int)]
/-- A literal that was handed back. -/
def LitV (B : Nat) (x : Gr.Lit) (w : World) (u : Value) : Prop := ∃ sl, u = .agg (litL x sl).toArray ∧ w.ownsRow B 59 4 sl x.atom.args.length (flatX x.atom.args)
/-- What reading a literal ends with. -/
def LitIs (X : Nat) (v : Value) (ts : List Tk) (f : Gr.Flt) (w : World) (res : Gr.Res Gr.Lit) (e : Ending) (w' : World) : Prop := ParIs X v ts f w (LitV w.heap.size) res e w'
end Go.Proofs.YtncdjkdpoinfaaaGreatDoor
/-
  Lists of the parser's values in memory. No condition beyond those that each lemma states.
-/
namespace Go.Proofs.YtncdjkdpoinfaaaGreatDoor
open Go.RowKit Go.Shelf Pl

inductive A2 {α : Type} (R : α → List Value → Prop) : List α → List (List Value) → Prop
  | nil : A2 R [] []
  | cons {x : α} {r : List Value} {xs : List α} {rs : List (List Value)} : R x r → A2 R xs rs → A2 R (x :: xs) (r :: rs)
section
variable {α : Type} {R R' : α → List Value → Prop} {xs : List α} {rs : List (List Value)} {x : α} {r : List Value}
theorem A2.imp (h : A2 R xs rs) (hi : ∀ x r, R x r → R' x r) : A2 R' xs rs := by
  induction h with
  | nil => exact .nil
  | cons h1 _ ih => exact .cons (hi _ _ h1) ih
theorem A2.snoc (h : A2 R xs rs) (hx : R x r) : A2 R (xs ++ [x]) (rs ++ [r]) := by
  induction h with
  | nil => exact .cons hx .nil
  | cons h1 _ ih => exact .cons h1 ih
theorem A2.len (h : A2 R xs rs) : rs.length = xs.length := by
  induction h with
  | nil => rfl
  | cons _ _ ih => simp [ih]
theorem A2.at (h : A2 R xs rs) (i : Nat) (hi : i < xs.length) : ∃ hr : i < rs.length, R xs[i] rs[i] := by
  induction h generalizing i with
  | nil => simp at hi
  | cons h1 _ ih =>
    cases i with
    | zero => exact ⟨by simp, h1⟩
    | succ i =>
      obtain ⟨k1, k2⟩ := ih i (by simpa using hi)
      exact ⟨by simpa using k1, k2⟩
theorem flatten_len {m : Nat} (h : A2 R xs rs) (hm : ∀ x r, R x r → r.length = m) : rs.flatten.length = xs.length * m := by
  induction h with
  | nil => simp
  | cons h1 _ ih => simp only [List.flatten_cons, List.length_append, ih, hm _ _ h1, List.length_cons, Nat.add_mul, Nat.one_mul]; omega
theorem flatten_at {m : Nat} (h : A2 R xs rs) (hm : ∀ x r, R x r → r.length = m) (i : Nat) (hi : i < rs.length) (j : Nat) (hj : j < m) : rs.flatten[i * m + j]? = rs[i][j]? := by
  induction h generalizing i with
  | nil => simp at hi
  | cons h1 _ ih =>
    simp only [List.flatten_cons]
    cases i with
    | zero =>
      rw [Nat.zero_mul, Nat.zero_add, List.getElem?_append_left (by rw [hm _ _ h1]; exact hj)]
      rfl
    | succ i =>
      rw [List.getElem?_append_right (by rw [hm _ _ h1, Nat.add_mul]; omega), hm _ _ h1]
      rw [show (i + 1) * m + j - m = i * m + j by rw [Nat.add_mul]; omega]
      exact ih i (by simpa using hi)
end
/-- A list in memory of its own. -/
def RowsV {α : Type} (R : World → α → List Value → Prop) (B : Nat) (T : TypeId) (m : Nat) (xs : List α) (w : World) (u : Value) : Prop := ∃ rows, A2 (R w) xs rows ∧ w.ownsRow B T m u xs.length rows.flatten
section
variable {α : Type} {R : World → α → List Value → Prop} {B B' m : Nat} {T : TypeId} {xs : List α} {w w' w5 : World} {u v' : Value} {x : α} {row : List Value} {rows : List (List Value)}
theorem RowsV.kt (h : RowsV R B T m xs w u) {Q : TypeId → Prop} (k : Kt Q w w') (hT : Q T) (hR : ∀ x r, R w x r → R w' x r) : RowsV R B T m xs w' u := by
  obtain ⟨rows, h1, h2⟩ := h
  exact ⟨rows, h1.imp hR, k.own hT h2⟩
theorem RowsV.mono (h : RowsV R B T m xs w u) (hb : B' ≤ B) {R' : World → α → List Value → Prop} (hR : ∀ x r, R w x r → R' w x r) : RowsV R' B' T m xs w u := by
  obtain ⟨rows, h1, h2⟩ := h
  exact ⟨rows, h1.imp hR, World.ownsRow.mono h2 hb⟩
theorem RowsV.nil : RowsV R B T m ([] : List α) w (.slice none 0 0) := ⟨[], .nil, by simp, .inl ⟨rfl, rfl⟩⟩
theorem RowsV.form (h : RowsV R B T m xs w u) : ∃ a c, u = .slice a xs.length c := by
  obtain ⟨rows, h1, h2⟩ := h
  rcases Joins.ownsRow_forms h2 with ⟨h5, h6⟩ | ⟨g, cap, h5⟩
  · exact ⟨none, 0, by rw [h5, h6]⟩
  · exact ⟨_, cap, h5⟩
theorem rows_push {o : Obj} (h1 : A2 (R w) xs rows) (h2 : w.ownsRow B T m u xs.length rows.flatten) (hx : R w x row) (hg : (w.alloc o).grownBy w5 u.ownBlock) (ho : w5.ownsRow B T m v' (xs.length + 1) (rows.flatten ++ row))
    (hR : ∀ x r, R w x r → Kt (fun t => t ≠ T) w w5 → R w5 x r) : RowsV R B T m (xs ++ [x]) w5 v' := by
  have k : Kt (fun t => t ≠ T) w w5 := (Kt.alloc w o).trans (Kt.grown hg (h2.alloc o) (by simp))
  refine ⟨rows ++ [row], (h1.imp (fun x r h => hR x r h k)).snoc (hR _ _ hx k), ?_⟩
  rw [List.length_append, List.length_singleton, List.flatten_append]
  simpa using ho
end
/-- A literal's row. -/
def LitC (B : Nat) (w : World) (x : Gr.Lit) (row : List Value) : Prop := ∃ sl, row = litL x sl ∧ w.ownsRow B 59 4 sl x.atom.args.length (flatX x.atom.args)
theorem LitC.kt {B : Nat} {w w' : World} {x : Gr.Lit} {row : List Value} {Q : TypeId → Prop} (h : LitC B w x row) (k : Kt Q w w') (hQ : Q 59) : LitC B w' x row := by
  obtain ⟨sl, h1, h2⟩ := h
  exact ⟨sl, h1, k.own hQ h2⟩
theorem LitC.mono {B B' : Nat} {w : World} {x : Gr.Lit} {row : List Value} (h : LitC B w x row) (hb : B' ≤ B) : LitC B' w x row := by
  obtain ⟨sl, h1, h2⟩ := h
  exact ⟨sl, h1, World.ownsRow.mono h2 hb⟩
theorem litL_one (x : Gr.Lit) {a : Option Addr} {n c : Nat} : ∀ u ∈ litL x (.slice a n c), u.oneCell' = true := by
  intro u hu
  simp only [litL, List.mem_cons, List.not_mem_nil, or_false] at hu
  rcases hu with rfl | rfl | rfl | rfl | rfl | rfl | rfl | rfl | rfl | rfl | rfl | rfl | rfl | rfl <;> rfl
abbrev LitsV (B : Nat) : List Gr.Lit → World → Value → Prop := RowsV (LitC B) B 101 14
theorem LitsV.kt {B : Nat} {xs : List Gr.Lit} {w w' : World} {u : Value} {Q : TypeId → Prop} (h : LitsV B xs w u) (k : Kt Q w w') (h1 : Q 59) (h2 : Q 101) : LitsV B xs w' u :=
  RowsV.kt h k h2 (fun _ _ h => h.kt k h1)
theorem LitsV.mono {B B' : Nat} {xs : List Gr.Lit} {w : World} {u : Value} (h : LitsV B xs w u) (hb : B' ≤ B) : LitsV B' xs w u :=
  RowsV.mono h hb (fun _ _ h => h.mono hb)
theorem Tryz.info101 : (Tryz.prog.info? 101).map (fun i => (i.zero, i.size, i.bytes)) = some (some (.agg #[.int .i64 0, .string noS, .slice none 0 0, .int .i64 0, .int .i64 0, .int .i64 0, .int .i64 0, .string noS, .int .i64 0, .int .i64 0, .int .i64 0, .string noS, .int .i64 0, .int .i64 0]), 14, 152) := by kernel_rfl
/-- What reading a body ends with. -/
def BodyIs (X : Nat) (v : Value) (ts : List Tk) (f : Gr.Flt) (w : World) (l : List Tk) (e : Ending) (w' : World) : Prop := ∃ res, Gr.BodyR f 0 l res ∧ ParIs X v ts f w (LitsV w.heap.size) res e w'
end Go.Proofs.YtncdjkdpoinfaaaGreatDoor
