/-
  Texts of this seat, one behind the other: W39, W40. Conditions: those that each of them states.
-/
import Derived.Test.YtncdjkdpoinfaaaGreatDoorG16
/-
  The walk of the function that Program hands to guarded. Conditions: the reader and the captured variable lie in memory.
-/
namespace Go.Proofs.YtncdjkdpoinfaaaGreatDoor
open Go.RowKit Go.Shelf Pl

def preP (xs : List Gr.Cls) : Except Gr.Flt (List Gr.Cls) → Except Gr.Flt (List Gr.Cls)
  | .error e => .error e
  | .ok ys => .ok (xs ++ ys)
theorem cls_less {f : Gr.Flt} {ts : List Tk} {res : Gr.Res Gr.Cls} (h : Gr.ClsR f ts res) : ∀ x r, res = .ok (x, r) → r.length < ts.length := by
  have bl : ∀ {n : Nat} {us : List Tk} {res : Gr.Res (List Gr.Lit)}, Gr.BodyR f n us res → ∀ ys r, res = .ok (ys, r) → r.length < us.length := by
    intro n us res hb
    induction hb with
    | none n => intro ys r h; simp at h
    | many n t r h1 h2 => intro ys r h; simp at h
    | bad n t r e' h1 h2 => intro ys r h; simp at h
    | ends n t r x h1 h2 => intro ys r h; simp at h
    | comma n t r x s r1 e' h1 h2 h3 h4 ih => intro ys r h; simp at h
    | commaOk n t r x s r1 xs' r2 h1 h2 h3 h4 ih =>
      intro ys r' h; simp at h
      have k := ih _ _ rfl
      obtain ⟨p, hp, _⟩ := Gr.litP_less h2
      have := congrArg List.length hp
      simp only [List.length_append, List.length_cons] at this ⊢
      rw [← h.2]; omega
    | dot n t r x s r1 h1 h2 h3 =>
      intro ys r' h; simp at h
      obtain ⟨p, hp, _⟩ := Gr.litP_less h2
      have := congrArg List.length hp
      simp only [List.length_append, List.length_cons] at this ⊢
      rw [← h.2]; omega
    | other n t r x s r1 h1 h2 h3 => intro ys r h; simp at h
  cases h with
  | head e' h1 => intro x r h; simp at h
  | none a h1 => intro x r h; simp at h
  | dot a s r2 h1 h2 =>
    intro x r h; simp at h
    obtain ⟨p, hp, _⟩ := Gr.atomP_less h1
    have := congrArg List.length hp
    simp only [List.length_append, List.length_cons] at this
    rw [← h.2]; omega
  | arrow a s r2 e' h1 h2 h3 => intro x r h; simp at h
  | arrowOk a s r2 xs r3 h1 h2 h3 =>
    intro x r h; simp at h
    have k := bl h3 _ _ rfl
    obtain ⟨p, hp, _⟩ := Gr.atomP_less h1
    have := congrArg List.length hp
    simp only [List.length_append, List.length_cons] at this
    rw [← h.2]; omega
  | other a s r2 h1 h2 h3 => intro x r h; simp at h


set_option maxRecDepth 100000 in
set_option maxHeartbeats 6400000 in
theorem progClo_any (X C : Nat) (v : Value) (ts : List Tk) (f : Gr.Flt) (w : World) (hR : Rdr w X v ts 0 f) (hC : w.heap[C]? = some (.cells #[.slice none 0 0] 24)) :
    Calls Tryz.prog 17 #[.pointer (some ⟨X, 0, none⟩), .pointer (some ⟨C, 0, none⟩)] w fun e w' => ∃ res, Gr.ProgR f 0 ts res ∧ CloIs X C w (VarV C 24 (ProgV w.heap.size)) res e w' := by
  obtain ⟨iE, bi, b0, b1, b2⟩ := info_parts Tryz.info35
  have hf0 := fld0
  have hX := hR.lt
  have hCz := (Array.getElem?_eq_some_iff.1 hC).1
  have hXC : X ≠ C := fun e => by rw [← e, hR.row] at hC; simp at hC
  have hfew := hR.few
  have HR0 := Lib.hid hR
  have HV0 : Hid (VarV C 24 (ProgV w.heap.size) [] w) := Lib.hid ⟨_, hC, RowsV.nil⟩
  have HO0 : Hid (Oth (fun k => k = X ∨ k = C) w w) := Lib.hid (Oth.refl _ w)
  have HK0 : Hid (∀ res', Gr.ProgR f ([] : List Gr.Cls).length (ts.drop 0) res' → Gr.ProgR f 0 ts (preP [] res')) := Lib.hid (by
    intro res' h
    cases res' with
    | error e => exact h
    | ok y => exact h)
  clear hC
  go_enter Tryz.func17, Tryz.ntmps17
  go_wp2
  go_loopw [] (fun wr => ∃ (xs : List Gr.Cls) (q : Nat), Hid (VarV C 24 (ProgV w.heap.size) xs wr) ∧ Hid (Rdr wr X v ts q f) ∧ Hid (Oth (fun k => k = X ∨ k = C) w wr) ∧ Hid (∀ res', Gr.ProgR f xs.length (ts.drop q) res' → Gr.ProgR f 0 ts (preP xs res')) ∧ xs.length ≤ q) (fun wr => ts.length - atOf wr X)
  case atStart => exact ⟨[], 0, HV0, HR0, HO0, HK0, by simp⟩
  case round =>
    obtain ⟨xs, q, HV, HRd, HO, HK, hxq⟩ := hrel
    clear HV0 HR0 HO0 HK0
    have HA := Lib.hid HRd.out.atOf
    have hq := HRd.out.le
    cases hd : ts.drop q with
    | nil =>
      have HD := Lib.hid hd
      have HE : Hid (Gr.ProgR f 0 ts (.error f)) := Lib.hid (HK.out (.error f) (by rw [hd]; exact .none _))
      clear hd
      go_wp2_with fail
      refine (peek_none X v ts q f _ HD.out HRd.out).mono ?_
      rintro e w5 ⟨rfl, hb5⟩
      exact ⟨rfl, _, HE.out, HO.out.up hb5, rfl⟩
    | cons t r =>
      have HD := Lib.hid hd
      go_wp2_with fail
      refine (peek_some X v ts q f _ t r hd HRd.out).mono ?_
      rintro e w1 ⟨rfl, hb1⟩
      simp only [tkA]
      have HR1 := Lib.hid (HRd.out.below hb1)
      have HO1 := Lib.hid (HO.out.up hb1)
      obtain ⟨u1, hc1, hv1⟩ := HV.out
      have k1 : Kt (fun _ => True) wr w1 := Kt.below hb1
      have hc1' := k1 _ _ _ hc1 trivial
      have hv1' := ProgV.kt hv1 k1 trivial trivial trivial
      obtain ⟨sa, sc, rfl⟩ := hv1'.form
      have HC1 := Lib.hid hc1'
      have HV1 := Lib.hid hv1'
      clear hb1 hc1 hv1 k1 hc1' hv1'
      by_cases h0 : t.kind = 0
      · have e0 : ((t.kind : Int) != 0) = false := by simp; omega
        have HE : Hid (Gr.ProgR f 0 ts (.ok xs)) := Lib.hid (by
          have := HK.out (.ok []) (by rw [hd]; exact .fin _ _ _ h0)
          simpa [preP] using this)
        clear h0 hd
        go_wp2
        first | go_end0 | refine bodyPost_ret (results_none rfl _ _ _) rfl ?_
        exact ⟨_, HE.out, HO1.out, rfl, _, HC1.out, HV1.out⟩
      · have e0 : ((t.kind : Int) != 0) = true := by simp; omega
        have hlt := (drop_at hd).1
        have hxn : xs.length ≤ 70000 := by omega
        obtain ⟨s0, g0⟩ := row1c HC1.out
        have H0 := Lib.hid h0
        clear h0
        by_cases hm : xs.length ≥ 512
        · have em : decide ((xs.length : Int) ≥ 512) = true := decide_eq_true (by omega)
          have em' : decide (512 ≤ xs.length) = true := decide_eq_true (by omega)
          by_cases h1 : t.kind = 1
          · have e1 : ((t.kind : Int) == 1) = true := by simp; omega
            have HE : Hid (Gr.ProgR f 0 ts (.error (24, t.off))) := Lib.hid (HK.out (.error (24, t.off)) (by rw [hd]; exact .many _ _ _ hm h1))
            clear hm h1 hd
            go_wp2_with fail
            refine (peek_some X v ts q f _ t r HD.out HR1.out).mono ?_
            rintro e w2 ⟨rfl, hb2⟩
            simp only [tkA]
            have HR2 := Lib.hid (HR1.out.below hb2)
            have HO2 := Lib.hid (HO1.out.up hb2)
            clear hb2
            go_wp2_with fail
            refine (stop_some X v ts q f _ t r 24 HD.out HR2.out).mono ?_
            rintro e w6 ⟨rfl, hb6⟩
            exact ⟨rfl, _, HE.out, HO2.out.up hb6, rfl⟩
          · have e1 : ((t.kind : Int) == 1) = false := by simp; omega
            have HN := Lib.hid (show ¬ (xs.length ≥ 512 ∧ t.kind = 1) from fun h => h1 h.2)
            clear hm h1 hd
            go_wp2_with fail
            refine (peek_some X v ts q f _ t r HD.out HR1.out).mono ?_
            rintro e w2 ⟨rfl, hb2⟩
            simp only [tkA]
            have HR2 := Lib.hid (HR1.out.below hb2)
            have HO2 := Lib.hid (HO1.out.up hb2)
            have k2 : Kt (fun _ => True) w1 w2 := Kt.below hb2
            have HC2 := Lib.hid (k2 _ _ _ HC1.out trivial)
            have HV2 := Lib.hid (ProgV.kt HV1.out k2 trivial trivial trivial)
            clear hb2 k2 s0 g0
            obtain ⟨s0, g0⟩ := row1c HC2.out
            go_upto_region 3 with fail
            have HRd2 := Lib.hid HR2.out.drew
            have HOd2 := Lib.hid (HO2.out.up (drew_below w2 _))
            have kd : Kt (fun _ => True) w2 w2.drew := Kt.drew w2
            have HCd2 := Lib.hid (kd _ _ _ HC2.out trivial)
            have HVd2 := Lib.hid (ProgV.kt HV2.out kd trivial trivial trivial)
            clear kd
            refine wp_region_T (fun x => x.cell? ⟨C, 0, none⟩ = some (.slice sa xs.length sc)) 7 (by kernel_rfl) ?_
            have hS : w2.drew.cell? ⟨C, 0, none⟩ = some (.slice sa xs.length sc) := s0
            refine wpAnyT_tk 0 _ ?_ rfl rfl (by kernel_rfl) (fun _ _ _ h => h) (by assumption) (Or.inl ⟨by rfl, fun x hx => ?_⟩) ?_
            rotate_left
            · have hx2 : x.cell? ⟨C, 0, none⟩ = some (.slice sa xs.length sc) := hx
              clear hx
              go_simp
              try with_reducible rfl
            try simp only [Act.put, List.setIfInBounds_toArray, List.set_cons_zero, List.set_cons_succ]
            refine wpAnyT_tk 1 _ ?_ rfl rfl (by kernel_rfl) (fun _ _ _ h => h) (by assumption) (Or.inl ⟨by rfl, fun x hx => ?_⟩) ?_
            rotate_left
            · have hx2 : x.cell? ⟨C, 0, none⟩ = some (.slice sa xs.length sc) := hx
              clear hx
              go_simp
              try with_reducible rfl
            try simp only [Act.put, List.setIfInBounds_toArray, List.set_cons_zero, List.set_cons_succ]
            refine wpAnyT_tk 2 _ ?_ rfl rfl (by kernel_rfl) (fun _ _ _ h => h) (by assumption) (Or.inl ⟨by rfl, fun x hx => ?_⟩) ?_
            rotate_left
            · have hx2 : x.cell? ⟨C, 0, none⟩ = some (.slice sa xs.length sc) := hx
              clear hx
              go_simp
              try with_reducible rfl
            try simp only [Act.put, List.setIfInBounds_toArray, List.set_cons_zero, List.set_cons_succ]
            refine wpAnyT_one 3 rfl (by kernel_rfl) (fun K' hK' => ?_)
            go_simp
            go_at_call 20
            refine (clause_any X v ts q f _ HRd2.out).mono ?_
            rintro e w7 ⟨res, hres, hb7, he7⟩
            rw [HD.out] at hres
            cases res with
            | error F =>
              have HE : Hid (Gr.ProgR f 0 ts (.error F)) := Lib.hid (HK.out (.error F) (by rw [HD.out]; exact .bad _ _ _ _ H0.out HN.out hres))
              have he7 : e = gvE F := he7
              clear hres
              subst he7
              exact ⟨rfl, _, HE.out, HOd2.out.bes hb7 (.inl (.inl rfl)), rfl⟩
            | ok xr =>
              obtain ⟨x, r1⟩ := xr
              obtain ⟨u7, q7, ⟨sl, bl, hu7, ho7, hl7⟩, he7, hR7, hd7⟩ := he7
              have hq7 : q < q7 := by
                have l0 := cls_less hres _ _ rfl
                have l1 := congrArg List.length HD.out
                have l2 := congrArg List.length hd7
                have := hR7.le
                simp only [List.length_drop] at l1 l2
                omega
              have HRES := Lib.hid hres
              clear hres
              subst hu7
              subst he7
              obtain ⟨ba, bc, rfl⟩ := hl7.form
              obtain ⟨ea, ec, rfl⟩ : ∃ ea ec, sl = .slice ea x.head.args.length ec := by
                rcases Joins.ownsRow_forms ho7 with ⟨h5, h6⟩ | ⟨g, cap, h5⟩
                · exact ⟨none, 0, by rw [h5]; rw [h6]⟩
                · exact ⟨_, cap, h5⟩
              obtain ⟨ln, hln⟩ : ∃ ln, ln = x.head.args.length := ⟨_, rfl⟩
              obtain ⟨ln2, hln2⟩ : ∃ ln2, ln2 = x.body.length := ⟨_, rfl⟩
              rw [← hln] at ho7 ⊢
              rw [← hln2] at hl7 ⊢
              have hrow : ClsC w.heap.size w7 x (clsL x (.slice ea ln ec) (.slice ba ln2 bc)) := ⟨_, _, rfl, by rw [hln] at ho7 ⊢; exact World.ownsRow.mono ho7 HOd2.out.size, hl7.mono HOd2.out.size⟩
              clear hln hln2 ho7 hl7
              have k7 : Kt (fun t => t ≠ 90) w2.drew w7 := Kt.bes hb7 HRd2.out.row (by simp)
              have hc7 := k7 _ _ _ HCd2.out (by decide)
              obtain ⟨rows, hA, hOw⟩ := ProgV.kt HVd2.out k7 (by decide) (by decide) (by decide)
              have HA7 := Lib.hid hA
              have HW7 := Lib.hid hOw
              have HX7 := Lib.hid hrow
              have HO7 := Lib.hid (HOd2.out.bes hb7 (.inl (.inl rfl)))
              have HR7 := Lib.hid hR7
              have HD7 := Lib.hid hd7
              have HC7 := Lib.hid hc7
              have HZ7 := Lib.hid HO7.out.size
              have hS7 := (row1c hc7).1
              have hS8 : (w7.alloc (.cells (clsL x (.slice ea ln ec) (.slice ba ln2 bc)).toArray 35)).cell? ⟨C, 0, none⟩ = some (.slice sa xs.length sc) := (row1c (Kt.alloc (T := fun _ => True) w7 _ _ _ _ hc7 trivial)).1
              clear hb7 hR7 hd7 k7 hc7 hA hOw hrow hS s0 g0
              simp only [clsL] at hS8 ⊢
              refine hK' _ _ (fun _ => hS7) ?_
              clear hK' K'
              try simp only [Act.put, List.setIfInBounds_toArray, List.set_cons_zero, List.set_cons_succ]
              refine wpAnyT_one 4 rfl (by kernel_rfl) (fun K' hK' => ?_)
              go_simp
              refine hK' _ _ (fun _ => hS8) ?_
              clear hK' K'
              try simp only [Act.put, List.setIfInBounds_toArray, List.set_cons_zero, List.set_cons_succ]
              refine wpAnyT_one 5 rfl (by kernel_rfl) (fun K' hK' => ?_)
              refine step_append_own _ (by rfl) _ _ 22 (by rfl) w.heap.size 35 iE (.agg #[.string noS, .slice none 0 0, .int .i64 0, .slice none 0 0]) 4 72 Tryz.underlying22 bi b0 b1 b2 rfl (by decide) (.slice sa xs.length sc) xs.length rows.flatten (by rfl) (by exact HW7.out.alloc _) ⟨w7.heap.size, 0, none⟩ 1 1 (clsL x (.slice ea ln ec) (.slice ba ln2 bc)) (by rfl) (by rfl) (World.news_of_block (cs := (clsL x (.slice ea ln ec) (.slice ba ln2 bc)).toArray) (t := 35) (fr := (0, 0)) (heap_alloc_new w7 _)) (clsL_one x) (by unfold maxLen; omega) (by omega) (by have := HZ7.out; simp; omega) ?_
              intro v8 w8 hown8 hgrow8 _
              have HL8 := Lib.hid (rows_push HA7.out HW7.out HX7.out hgrow8 hown8 (fun x r h k => h.kt k (by decide) (by decide)))
              have HO8 := Lib.hid ((HO7.out.alloc _).grown hgrow8 (HW7.out.alloc _) (Nat.le_refl _))
              have k8 : Kt (fun t => t ≠ 35) w7 w8 := (Kt.alloc w7 _).trans (Kt.grown hgrow8 (HW7.out.alloc _) (by simp))
              have HR8 := Lib.hid (HR7.out.kt k8 (by decide) (by decide))
              have hc8 := k8 _ _ _ HC7.out (by decide)
              have HC8 := Lib.hid hc8
              obtain ⟨g8, c8, rfl⟩ := Joins.ownsRow_form hown8 (by omega)
              obtain ⟨hS9, hF9⟩ := row1c hc8
              clear hown8 hgrow8 hS7 hS8 k8 hc8
              refine hK' _ _ (fun _ => hS9) ?_
              clear hK' K'
              try simp only [Act.put, List.setIfInBounds_toArray, List.set_cons_zero, List.set_cons_succ]
              refine wpAnyT_one 6 rfl (by kernel_rfl) (fun K' hK' => ?_)
              go_simp
              refine hK' _ _ (fun _ => hS9) ?_
              clear hK' K'
              try simp only [Act.put, List.setIfInBounds_toArray, List.set_cons_zero, List.set_cons_succ]
              refine wpAnyT_one 7 rfl (by kernel_rfl) (fun K' hK' => ?_)
              go_simp
              refine hK' _ _ (fun h => absurd rfl h) ?_
              clear hK' K'
              try simp only [Act.put, List.setIfInBounds_toArray, List.set_cons_zero, List.set_cons_succ]
              refine wpAnyT_done (by kernel_rfl) ?_ _
              clear hS9 hF9
              obtain ⟨w9, hw9⟩ : ∃ w9, w9 = w8.setCell ⟨C, 0, none⟩ (.slice (some ⟨g8, 0, none⟩) (xs.length + 1) c8) := ⟨_, rfl⟩
              rw [← hw9]
              have k9 : Kt (fun t => t ≠ 24) w8 w9 := by rw [hw9]; exact Kt.set (p := ⟨C, 0, none⟩) HC8.out (by simp)
              have HR9 := Lib.hid (HR8.out.kt k9 (by decide) (by decide))
              have HO9 : Hid (Oth (fun k => k = X ∨ k = C) w w9) := Lib.hid (by rw [hw9]; exact HO8.out.set (p := ⟨C, 0, none⟩) (.inl (.inr rfl)) _)
              have HC9 : Hid (w9.heap[C]? = some (.cells #[.slice (some ⟨g8, 0, none⟩) (xs.length + 1) c8] 24)) := Lib.hid (by rw [hw9]; exact one_setc HC8.out)
              have HL9 := Lib.hid (ProgV.kt HL8.out k9 (by decide) (by decide) (by decide))
              clear hw9 k9 HR8 HO8 HC8 HL8 HR7 HO7 HC7
              have HKN : Hid (∀ res', Gr.ProgR f (xs ++ [x]).length (ts.drop q7) res' → Gr.ProgR f 0 ts (preP (xs ++ [x]) res')) := Lib.hid (by
                intro res' h
                rw [List.length_append, List.length_singleton, HD7.out] at h
                have hk := HK.out
                rw [HD.out] at hk
                cases res' with
                | error e => exact hk (.error e) (.more _ _ _ _ _ _ H0.out HN.out HRES.out h)
                | ok ys =>
                  have := hk (.ok (x :: ys)) (.moreOk _ _ _ _ _ _ H0.out HN.out HRES.out h)
                  simpa [preP] using this)
              go_wp2
              go_roundw
              case rel => exact ⟨xs ++ [x], q7, Lib.hid ⟨_, HC9.out, HL9.out⟩, HR9, HO9, HKN, by simp; omega⟩
              case measure => exact rdr_less HA.out HR9.out hq7 rfl
        · have em : decide ((xs.length : Int) ≥ 512) = false := decide_eq_false (by omega)
          have em' : decide (512 ≤ xs.length) = false := decide_eq_false (by omega)
          have HN := Lib.hid (show ¬ (xs.length ≥ 512 ∧ t.kind = 1) from fun h => hm h.1)
          clear hm hd
          obtain ⟨w2, hw2⟩ : ∃ w2, w2 = w1 := ⟨_, rfl⟩
          rw [← hw2] at HR1 HO1 HC1 HV1 s0 g0 ⊢
          have HR2 := HR1
          have HO2 := HO1
          have HC2 := HC1
          have HV2 := HV1
          clear hw2
          go_upto_region 3 with fail
          have HRd2 := Lib.hid HR2.out.drew
          have HOd2 := Lib.hid (HO2.out.up (drew_below w2 _))
          have kd : Kt (fun _ => True) w2 w2.drew := Kt.drew w2
          have HCd2 := Lib.hid (kd _ _ _ HC2.out trivial)
          have HVd2 := Lib.hid (ProgV.kt HV2.out kd trivial trivial trivial)
          clear kd
          refine wp_region_T (fun x => x.cell? ⟨C, 0, none⟩ = some (.slice sa xs.length sc)) 7 (by kernel_rfl) ?_
          have hS : w2.drew.cell? ⟨C, 0, none⟩ = some (.slice sa xs.length sc) := s0
          refine wpAnyT_tk 0 _ ?_ rfl rfl (by kernel_rfl) (fun _ _ _ h => h) (by assumption) (Or.inl ⟨by rfl, fun x hx => ?_⟩) ?_
          rotate_left
          · have hx2 : x.cell? ⟨C, 0, none⟩ = some (.slice sa xs.length sc) := hx
            clear hx
            go_simp
            try with_reducible rfl
          try simp only [Act.put, List.setIfInBounds_toArray, List.set_cons_zero, List.set_cons_succ]
          refine wpAnyT_tk 1 _ ?_ rfl rfl (by kernel_rfl) (fun _ _ _ h => h) (by assumption) (Or.inl ⟨by rfl, fun x hx => ?_⟩) ?_
          rotate_left
          · have hx2 : x.cell? ⟨C, 0, none⟩ = some (.slice sa xs.length sc) := hx
            clear hx
            go_simp
            try with_reducible rfl
          try simp only [Act.put, List.setIfInBounds_toArray, List.set_cons_zero, List.set_cons_succ]
          refine wpAnyT_tk 2 _ ?_ rfl rfl (by kernel_rfl) (fun _ _ _ h => h) (by assumption) (Or.inl ⟨by rfl, fun x hx => ?_⟩) ?_
          rotate_left
          · have hx2 : x.cell? ⟨C, 0, none⟩ = some (.slice sa xs.length sc) := hx
            clear hx
            go_simp
            try with_reducible rfl
          try simp only [Act.put, List.setIfInBounds_toArray, List.set_cons_zero, List.set_cons_succ]
          refine wpAnyT_one 3 rfl (by kernel_rfl) (fun K' hK' => ?_)
          go_simp
          go_at_call 20
          refine (clause_any X v ts q f _ HRd2.out).mono ?_
          rintro e w7 ⟨res, hres, hb7, he7⟩
          rw [HD.out] at hres
          cases res with
          | error F =>
            have HE : Hid (Gr.ProgR f 0 ts (.error F)) := Lib.hid (HK.out (.error F) (by rw [HD.out]; exact .bad _ _ _ _ H0.out HN.out hres))
            have he7 : e = gvE F := he7
            clear hres
            subst he7
            exact ⟨rfl, _, HE.out, HOd2.out.bes hb7 (.inl (.inl rfl)), rfl⟩
          | ok xr =>
            obtain ⟨x, r1⟩ := xr
            obtain ⟨u7, q7, ⟨sl, bl, hu7, ho7, hl7⟩, he7, hR7, hd7⟩ := he7
            have hq7 : q < q7 := by
              have l0 := cls_less hres _ _ rfl
              have l1 := congrArg List.length HD.out
              have l2 := congrArg List.length hd7
              have := hR7.le
              simp only [List.length_drop] at l1 l2
              omega
            have HRES := Lib.hid hres
            clear hres
            subst hu7
            subst he7
            obtain ⟨ba, bc, rfl⟩ := hl7.form
            obtain ⟨ea, ec, rfl⟩ : ∃ ea ec, sl = .slice ea x.head.args.length ec := by
              rcases Joins.ownsRow_forms ho7 with ⟨h5, h6⟩ | ⟨g, cap, h5⟩
              · exact ⟨none, 0, by rw [h5]; rw [h6]⟩
              · exact ⟨_, cap, h5⟩
            obtain ⟨ln, hln⟩ : ∃ ln, ln = x.head.args.length := ⟨_, rfl⟩
            obtain ⟨ln2, hln2⟩ : ∃ ln2, ln2 = x.body.length := ⟨_, rfl⟩
            rw [← hln] at ho7 ⊢
            rw [← hln2] at hl7 ⊢
            have hrow : ClsC w.heap.size w7 x (clsL x (.slice ea ln ec) (.slice ba ln2 bc)) := ⟨_, _, rfl, by rw [hln] at ho7 ⊢; exact World.ownsRow.mono ho7 HOd2.out.size, hl7.mono HOd2.out.size⟩
            clear hln hln2 ho7 hl7
            have k7 : Kt (fun t => t ≠ 90) w2.drew w7 := Kt.bes hb7 HRd2.out.row (by simp)
            have hc7 := k7 _ _ _ HCd2.out (by decide)
            obtain ⟨rows, hA, hOw⟩ := ProgV.kt HVd2.out k7 (by decide) (by decide) (by decide)
            have HA7 := Lib.hid hA
            have HW7 := Lib.hid hOw
            have HX7 := Lib.hid hrow
            have HO7 := Lib.hid (HOd2.out.bes hb7 (.inl (.inl rfl)))
            have HR7 := Lib.hid hR7
            have HD7 := Lib.hid hd7
            have HC7 := Lib.hid hc7
            have HZ7 := Lib.hid HO7.out.size
            have hS7 := (row1c hc7).1
            have hS8 : (w7.alloc (.cells (clsL x (.slice ea ln ec) (.slice ba ln2 bc)).toArray 35)).cell? ⟨C, 0, none⟩ = some (.slice sa xs.length sc) := (row1c (Kt.alloc (T := fun _ => True) w7 _ _ _ _ hc7 trivial)).1
            clear hb7 hR7 hd7 k7 hc7 hA hOw hrow hS s0 g0
            simp only [clsL] at hS8 ⊢
            refine hK' _ _ (fun _ => hS7) ?_
            clear hK' K'
            try simp only [Act.put, List.setIfInBounds_toArray, List.set_cons_zero, List.set_cons_succ]
            refine wpAnyT_one 4 rfl (by kernel_rfl) (fun K' hK' => ?_)
            go_simp
            refine hK' _ _ (fun _ => hS8) ?_
            clear hK' K'
            try simp only [Act.put, List.setIfInBounds_toArray, List.set_cons_zero, List.set_cons_succ]
            refine wpAnyT_one 5 rfl (by kernel_rfl) (fun K' hK' => ?_)
            refine step_append_own _ (by rfl) _ _ 22 (by rfl) w.heap.size 35 iE (.agg #[.string noS, .slice none 0 0, .int .i64 0, .slice none 0 0]) 4 72 Tryz.underlying22 bi b0 b1 b2 rfl (by decide) (.slice sa xs.length sc) xs.length rows.flatten (by rfl) (by exact HW7.out.alloc _) ⟨w7.heap.size, 0, none⟩ 1 1 (clsL x (.slice ea ln ec) (.slice ba ln2 bc)) (by rfl) (by rfl) (World.news_of_block (cs := (clsL x (.slice ea ln ec) (.slice ba ln2 bc)).toArray) (t := 35) (fr := (0, 0)) (heap_alloc_new w7 _)) (clsL_one x) (by unfold maxLen; omega) (by omega) (by have := HZ7.out; simp; omega) ?_
            intro v8 w8 hown8 hgrow8 _
            have HL8 := Lib.hid (rows_push HA7.out HW7.out HX7.out hgrow8 hown8 (fun x r h k => h.kt k (by decide) (by decide)))
            have HO8 := Lib.hid ((HO7.out.alloc _).grown hgrow8 (HW7.out.alloc _) (Nat.le_refl _))
            have k8 : Kt (fun t => t ≠ 35) w7 w8 := (Kt.alloc w7 _).trans (Kt.grown hgrow8 (HW7.out.alloc _) (by simp))
            have HR8 := Lib.hid (HR7.out.kt k8 (by decide) (by decide))
            have hc8 := k8 _ _ _ HC7.out (by decide)
            have HC8 := Lib.hid hc8
            obtain ⟨g8, c8, rfl⟩ := Joins.ownsRow_form hown8 (by omega)
            obtain ⟨hS9, hF9⟩ := row1c hc8
            clear hown8 hgrow8 hS7 hS8 k8 hc8
            refine hK' _ _ (fun _ => hS9) ?_
            clear hK' K'
            try simp only [Act.put, List.setIfInBounds_toArray, List.set_cons_zero, List.set_cons_succ]
            refine wpAnyT_one 6 rfl (by kernel_rfl) (fun K' hK' => ?_)
            go_simp
            refine hK' _ _ (fun _ => hS9) ?_
            clear hK' K'
            try simp only [Act.put, List.setIfInBounds_toArray, List.set_cons_zero, List.set_cons_succ]
            refine wpAnyT_one 7 rfl (by kernel_rfl) (fun K' hK' => ?_)
            go_simp
            refine hK' _ _ (fun h => absurd rfl h) ?_
            clear hK' K'
            try simp only [Act.put, List.setIfInBounds_toArray, List.set_cons_zero, List.set_cons_succ]
            refine wpAnyT_done (by kernel_rfl) ?_ _
            clear hS9 hF9
            obtain ⟨w9, hw9⟩ : ∃ w9, w9 = w8.setCell ⟨C, 0, none⟩ (.slice (some ⟨g8, 0, none⟩) (xs.length + 1) c8) := ⟨_, rfl⟩
            rw [← hw9]
            have k9 : Kt (fun t => t ≠ 24) w8 w9 := by rw [hw9]; exact Kt.set (p := ⟨C, 0, none⟩) HC8.out (by simp)
            have HR9 := Lib.hid (HR8.out.kt k9 (by decide) (by decide))
            have HO9 : Hid (Oth (fun k => k = X ∨ k = C) w w9) := Lib.hid (by rw [hw9]; exact HO8.out.set (p := ⟨C, 0, none⟩) (.inl (.inr rfl)) _)
            have HC9 : Hid (w9.heap[C]? = some (.cells #[.slice (some ⟨g8, 0, none⟩) (xs.length + 1) c8] 24)) := Lib.hid (by rw [hw9]; exact one_setc HC8.out)
            have HL9 := Lib.hid (ProgV.kt HL8.out k9 (by decide) (by decide) (by decide))
            clear hw9 k9 HR8 HO8 HC8 HL8 HR7 HO7 HC7
            have HKN : Hid (∀ res', Gr.ProgR f (xs ++ [x]).length (ts.drop q7) res' → Gr.ProgR f 0 ts (preP (xs ++ [x]) res')) := Lib.hid (by
              intro res' h
              rw [List.length_append, List.length_singleton, HD7.out] at h
              have hk := HK.out
              rw [HD.out] at hk
              cases res' with
              | error e => exact hk (.error e) (.more _ _ _ _ _ _ H0.out HN.out HRES.out h)
              | ok ys =>
                have := hk (.ok (x :: ys)) (.moreOk _ _ _ _ _ _ H0.out HN.out HRES.out h)
                simpa [preP] using this)
            go_wp2
            go_roundw
            case rel => exact ⟨xs ++ [x], q7, Lib.hid ⟨_, HC9.out, HL9.out⟩, HR9, HO9, HKN, by simp; omega⟩
            case measure => exact rdr_less HA.out HR9.out hq7 rfl
end Go.Proofs.YtncdjkdpoinfaaaGreatDoor
/-
  The walk of the function that Facts hands to guarded. Conditions: the reader and the captured variable lie in memory.
-/
namespace Go.Proofs.YtncdjkdpoinfaaaGreatDoor
open Go.RowKit Go.Shelf Pl

def preF (xs : List Gr.Atm) : Except Gr.Flt (List Gr.Atm) → Except Gr.Flt (List Gr.Atm)
  | .error e => .error e
  | .ok ys => .ok (xs ++ ys)


set_option maxRecDepth 100000 in
set_option maxHeartbeats 6400000 in
theorem factsClo_any (X C : Nat) (v : Value) (ts : List Tk) (f : Gr.Flt) (w : World) (hR : Rdr w X v ts 0 f) (hC : w.heap[C]? = some (.cells #[.slice none 0 0] 39)) :
    Calls Tryz.prog 24 #[.pointer (some ⟨X, 0, none⟩), .pointer (some ⟨C, 0, none⟩)] w fun e w' => ∃ res, Gr.FactsR f 0 ts res ∧ CloIs X C w (VarV C 39 (AtmsV w.heap.size)) res e w' := by
  obtain ⟨iE, bi, b0, b1, b2⟩ := info_parts Tryz.info32b
  have hf0 := fld0
  have hX := hR.lt
  have hCz := (Array.getElem?_eq_some_iff.1 hC).1
  have hXC : X ≠ C := fun e => by rw [← e, hR.row] at hC; simp at hC
  have hfew := hR.few
  have HR0 := Lib.hid hR
  have HV0 : Hid (VarV C 39 (AtmsV w.heap.size) [] w) := Lib.hid ⟨_, hC, RowsV.nil⟩
  have HO0 : Hid (Oth (fun k => k = X ∨ k = C) w w) := Lib.hid (Oth.refl _ w)
  have HK0 : Hid (∀ res', Gr.FactsR f ([] : List Gr.Atm).length (ts.drop 0) res' → Gr.FactsR f 0 ts (preF [] res')) := Lib.hid (by
    intro res' h
    cases res' with
    | error e => exact h
    | ok y => exact h)
  clear hC
  go_enter Tryz.func24, Tryz.ntmps24
  go_wp2
  go_loopw [] (fun wr => ∃ (xs : List Gr.Atm) (q : Nat), Hid (VarV C 39 (AtmsV w.heap.size) xs wr) ∧ Hid (Rdr wr X v ts q f) ∧ Hid (Oth (fun k => k = X ∨ k = C) w wr) ∧ Hid (∀ res', Gr.FactsR f xs.length (ts.drop q) res' → Gr.FactsR f 0 ts (preF xs res')) ∧ xs.length ≤ q) (fun wr => ts.length - atOf wr X)
  case atStart => exact ⟨[], 0, HV0, HR0, HO0, HK0, by simp⟩
  case round =>
    obtain ⟨xs, q, HV, HRd, HO, HK, hxq⟩ := hrel
    clear HV0 HR0 HO0 HK0
    have HA := Lib.hid HRd.out.atOf
    have hq := HRd.out.le
    cases hd : ts.drop q with
    | nil =>
      have HD := Lib.hid hd
      have HE : Hid (Gr.FactsR f 0 ts (.error f)) := Lib.hid (HK.out (.error f) (by rw [hd]; exact .none _))
      clear hd
      go_wp2_with fail
      refine (peek_none X v ts q f _ HD.out HRd.out).mono ?_
      rintro e w5 ⟨rfl, hb5⟩
      exact ⟨rfl, _, HE.out, HO.out.up hb5, rfl⟩
    | cons t r =>
      have HD := Lib.hid hd
      go_wp2_with fail
      refine (peek_some X v ts q f _ t r hd HRd.out).mono ?_
      rintro e w1 ⟨rfl, hb1⟩
      simp only [tkA]
      have HR1 := Lib.hid (HRd.out.below hb1)
      have HO1 := Lib.hid (HO.out.up hb1)
      obtain ⟨u1, hc1, hv1⟩ := HV.out
      have k1 : Kt (fun _ => True) wr w1 := Kt.below hb1
      have hc1' := k1 _ _ _ hc1 trivial
      have hv1' := AtmsV.kt hv1 k1 trivial trivial
      obtain ⟨sa, sc, rfl⟩ := hv1'.form
      have HC1 := Lib.hid hc1'
      have HV1 := Lib.hid hv1'
      clear hb1 hc1 hv1 k1 hc1' hv1'
      by_cases h0 : t.kind = 0
      · have e0 : ((t.kind : Int) != 0) = false := by simp; omega
        have HE : Hid (Gr.FactsR f 0 ts (.ok xs)) := Lib.hid (by
          have := HK.out (.ok []) (by rw [hd]; exact .fin _ _ _ h0)
          simpa [preF] using this)
        clear h0 hd
        go_wp2
        first | go_end0 | refine bodyPost_ret (results_none rfl _ _ _) rfl ?_
        exact ⟨_, HE.out, HO1.out, rfl, _, HC1.out, HV1.out⟩
      · have e0 : ((t.kind : Int) != 0) = true := by simp; omega
        have hlt := (drop_at hd).1
        have hxn : xs.length ≤ 70000 := by omega
        obtain ⟨s0, g0⟩ := row1c HC1.out
        have H0 := Lib.hid h0
        clear h0
        by_cases hm : xs.length ≥ 4096
        · have em : decide ((xs.length : Int) ≥ 4096) = true := decide_eq_true (by omega)
          have em' : decide (4096 ≤ xs.length) = true := decide_eq_true (by omega)
          by_cases h1 : t.kind = 1
          · have e1 : ((t.kind : Int) == 1) = true := by simp; omega
            have HE : Hid (Gr.FactsR f 0 ts (.error (24, t.off))) := Lib.hid (HK.out (.error (24, t.off)) (by rw [hd]; exact .many _ _ _ hm h1))
            clear hm h1 hd
            go_wp2_with fail
            refine (peek_some X v ts q f _ t r HD.out HR1.out).mono ?_
            rintro e w2 ⟨rfl, hb2⟩
            simp only [tkA]
            have HR2 := Lib.hid (HR1.out.below hb2)
            have HO2 := Lib.hid (HO1.out.up hb2)
            clear hb2
            go_wp2_with fail
            refine (stop_some X v ts q f _ t r 24 HD.out HR2.out).mono ?_
            rintro e w6 ⟨rfl, hb6⟩
            exact ⟨rfl, _, HE.out, HO2.out.up hb6, rfl⟩
          · have e1 : ((t.kind : Int) == 1) = false := by simp; omega
            have HN := Lib.hid (show ¬ (xs.length ≥ 4096 ∧ t.kind = 1) from fun h => h1 h.2)
            clear hm h1 hd
            go_wp2_with fail
            refine (peek_some X v ts q f _ t r HD.out HR1.out).mono ?_
            rintro e w2 ⟨rfl, hb2⟩
            simp only [tkA]
            have HR2 := Lib.hid (HR1.out.below hb2)
            have HO2 := Lib.hid (HO1.out.up hb2)
            have k2 : Kt (fun _ => True) w1 w2 := Kt.below hb2
            have HC2 := Lib.hid (k2 _ _ _ HC1.out trivial)
            have HV2 := Lib.hid (AtmsV.kt HV1.out k2 trivial trivial)
            clear hb2 k2 s0 g0
            obtain ⟨s0, g0⟩ := row1c HC2.out
            go_upto_region 3 with fail
            have HRd2 := Lib.hid HR2.out.drew
            have HOd2 := Lib.hid (HO2.out.up (drew_below w2 _))
            have kd : Kt (fun _ => True) w2 w2.drew := Kt.drew w2
            have HCd2 := Lib.hid (kd _ _ _ HC2.out trivial)
            have HVd2 := Lib.hid (AtmsV.kt HV2.out kd trivial trivial)
            clear kd
            refine wp_region_T (fun x => x.cell? ⟨C, 0, none⟩ = some (.slice sa xs.length sc)) 5 (by kernel_rfl) ?_
            have hS : w2.drew.cell? ⟨C, 0, none⟩ = some (.slice sa xs.length sc) := s0
            refine wpAnyT_tk 0 _ ?_ rfl rfl (by kernel_rfl) (fun _ _ _ h => h) (by assumption) (Or.inl ⟨by rfl, fun x hx => ?_⟩) ?_
            rotate_left
            · have hx2 : x.cell? ⟨C, 0, none⟩ = some (.slice sa xs.length sc) := hx
              clear hx
              go_simp
              try with_reducible rfl
            try simp only [Act.put, List.setIfInBounds_toArray, List.set_cons_zero, List.set_cons_succ]
            refine wpAnyT_tk 1 _ ?_ rfl rfl (by kernel_rfl) (fun _ _ _ h => h) (by assumption) (Or.inl ⟨by rfl, fun x hx => ?_⟩) ?_
            rotate_left
            · have hx2 : x.cell? ⟨C, 0, none⟩ = some (.slice sa xs.length sc) := hx
              clear hx
              go_simp
              try with_reducible rfl
            try simp only [Act.put, List.setIfInBounds_toArray, List.set_cons_zero, List.set_cons_succ]
            refine wpAnyT_one 2 rfl (by kernel_rfl) (fun K' hK' => ?_)
            go_simp
            go_at_call 25
            refine (atom_any X v ts q f _ false HRd2.out).mono ?_
            rintro e w7 ⟨hb7, he7⟩
            cases hat : Gr.atomP f false (ts.drop q) with
            | error F =>
              have HE : Hid (Gr.FactsR f 0 ts (.error F)) := Lib.hid (HK.out (.error F) (by rw [HD.out] at hat ⊢; exact .bad _ _ _ _ H0.out HN.out hat))
              rw [hat] at he7
              have he7 : e = gvE F := he7
              clear hat
              subst he7
              exact ⟨rfl, _, HE.out, HOd2.out.bes hb7 (.inl (.inl rfl)), rfl⟩
            | ok xr =>
              obtain ⟨x, r1⟩ := xr
              rw [hat] at he7
              obtain ⟨u7, q7, ⟨sl, hu7, ho7⟩, he7, hR7, hd7⟩ := he7
              have hq7 : q < q7 := by
                obtain ⟨p, hp, _⟩ := Gr.atomP_less hat
                have l0 := congrArg List.length hp
                have l2 := congrArg List.length hd7
                have := hR7.le
                simp only [List.length_drop, List.length_append] at l0 l2
                omega
              have HRES := Lib.hid hat
              clear hat
              subst hu7
              subst he7
              obtain ⟨ea, ec, rfl⟩ : ∃ ea ec, sl = .slice ea x.args.length ec := by
                rcases Joins.ownsRow_forms ho7 with ⟨h5, h6⟩ | ⟨g, cap, h5⟩
                · exact ⟨none, 0, by rw [h5]; rw [h6]⟩
                · exact ⟨_, cap, h5⟩
              obtain ⟨ln, hln⟩ : ∃ ln, ln = x.args.length := ⟨_, rfl⟩
              rw [← hln] at ho7 ⊢
              have hrow : AtmC w.heap.size w7 x (atmL x (.slice ea ln ec)) := ⟨_, rfl, by rw [hln] at ho7 ⊢; exact World.ownsRow.mono ho7 HOd2.out.size⟩
              clear hln ho7
              have k7 : Kt (fun t => t ≠ 90) w2.drew w7 := Kt.bes hb7 HRd2.out.row (by simp)
              have hc7 := k7 _ _ _ HCd2.out (by decide)
              obtain ⟨rows, hA, hOw⟩ := AtmsV.kt HVd2.out k7 (by decide) (by decide)
              have HA7 := Lib.hid hA
              have HW7 := Lib.hid hOw
              have HX7 := Lib.hid hrow
              have HO7 := Lib.hid (HOd2.out.bes hb7 (.inl (.inl rfl)))
              have HR7 := Lib.hid hR7
              have HD7 := Lib.hid hd7
              have HC7 := Lib.hid hc7
              have HZ7 := Lib.hid HO7.out.size
              have hS7 := (row1c hc7).1
              have hS8 : (w7.alloc (.cells (atmL x (.slice ea ln ec)).toArray 32)).cell? ⟨C, 0, none⟩ = some (.slice sa xs.length sc) := (row1c (Kt.alloc (T := fun _ => True) w7 _ _ _ _ hc7 trivial)).1
              clear hb7 hR7 hd7 k7 hc7 hA hOw hrow hS s0 g0
              simp only [atmL] at hS8 ⊢
              refine hK' _ _ (fun _ => hS7) ?_
              clear hK' K'
              try simp only [Act.put, List.setIfInBounds_toArray, List.set_cons_zero, List.set_cons_succ]
              refine wpAnyT_one 3 rfl (by kernel_rfl) (fun K' hK' => ?_)
              go_simp
              refine hK' _ _ (fun _ => hS8) ?_
              clear hK' K'
              try simp only [Act.put, List.setIfInBounds_toArray, List.set_cons_zero, List.set_cons_succ]
              refine wpAnyT_one 4 rfl (by kernel_rfl) (fun K' hK' => ?_)
              refine step_append_own _ (by rfl) _ _ 39 (by rfl) w.heap.size 32 iE (.agg #[.string noS, .slice none 0 0, .int .i64 0]) 3 48 Tryz.underlying39 bi b0 b1 b2 rfl (by decide) (.slice sa xs.length sc) xs.length rows.flatten (by rfl) (by exact HW7.out.alloc _) ⟨w7.heap.size, 0, none⟩ 1 1 (atmL x (.slice ea ln ec)) (by rfl) (by rfl) (World.news_of_block (cs := (atmL x (.slice ea ln ec)).toArray) (t := 32) (fr := (0, 0)) (heap_alloc_new w7 _)) (atmL_one x) (by unfold maxLen; omega) (by omega) (by have := HZ7.out; simp; omega) ?_
              intro v8 w8 hown8 hgrow8 _
              have HL8 := Lib.hid (rows_push HA7.out HW7.out HX7.out hgrow8 hown8 (fun x r h k => h.kt k (by decide)))
              have HO8 := Lib.hid ((HO7.out.alloc _).grown hgrow8 (HW7.out.alloc _) (Nat.le_refl _))
              have k8 : Kt (fun t => t ≠ 32) w7 w8 := (Kt.alloc w7 _).trans (Kt.grown hgrow8 (HW7.out.alloc _) (by simp))
              have HR8 := Lib.hid (HR7.out.kt k8 (by decide) (by decide))
              have hc8 := k8 _ _ _ HC7.out (by decide)
              have HC8 := Lib.hid hc8
              obtain ⟨g8, c8, rfl⟩ := Joins.ownsRow_form hown8 (by omega)
              obtain ⟨hS9, hF9⟩ := row1c hc8
              clear hown8 hgrow8 hS7 hS8 k8 hc8
              refine hK' _ _ (fun _ => hS9) ?_
              clear hK' K'
              try simp only [Act.put, List.setIfInBounds_toArray, List.set_cons_zero, List.set_cons_succ]
              refine wpAnyT_one 5 rfl (by kernel_rfl) (fun K' hK' => ?_)
              go_simp
              refine hK' _ _ (fun h => absurd rfl h) ?_
              clear hK' K'
              try simp only [Act.put, List.setIfInBounds_toArray, List.set_cons_zero, List.set_cons_succ]
              refine wpAnyT_done (by kernel_rfl) ?_ _
              clear hS9 hF9
              obtain ⟨w9, hw9⟩ : ∃ w9, w9 = w8.setCell ⟨C, 0, none⟩ (.slice (some ⟨g8, 0, none⟩) (xs.length + 1) c8) := ⟨_, rfl⟩
              rw [← hw9]
              have k9 : Kt (fun t => t ≠ 39) w8 w9 := by rw [hw9]; exact Kt.set (p := ⟨C, 0, none⟩) HC8.out (by simp)
              have HR9 := Lib.hid (HR8.out.kt k9 (by decide) (by decide))
              have HO9 : Hid (Oth (fun k => k = X ∨ k = C) w w9) := Lib.hid (by rw [hw9]; exact HO8.out.set (p := ⟨C, 0, none⟩) (.inl (.inr rfl)) _)
              have HC9 : Hid (w9.heap[C]? = some (.cells #[.slice (some ⟨g8, 0, none⟩) (xs.length + 1) c8] 39)) := Lib.hid (by rw [hw9]; exact one_setc HC8.out)
              have HL9 := Lib.hid (AtmsV.kt HL8.out k9 (by decide) (by decide))
              clear hw9 k9 HR8 HO8 HC8 HL8 HR7 HO7 HC7
              go_wp2_with fail
              cases htk : Gr.takeP f 8 (ts.drop q7) with
              | error F =>
                have HE : Hid (Gr.FactsR f 0 ts (.error F)) := Lib.hid (HK.out (.error F) (by have h1 := HRES.out; rw [HD.out] at h1 ⊢; rw [HD7.out] at htk; exact .undot _ _ _ _ _ _ H0.out HN.out h1 htk))
                refine (take_any X v ts q7 f _ 8 HR9.out).mono ?_
                rintro e w10 ⟨hb10, he10⟩
                rw [htk] at he10
                have he10 : e = gvE F := he10
                clear htk
                subst he10
                exact ⟨rfl, _, HE.out, HO9.out.bes hb10 (.inl (.inl rfl)), rfl⟩
              | ok sr =>
                obtain ⟨s, r2⟩ := sr
                have HTK := Lib.hid htk
                refine (take_any X v ts q7 f _ 8 HR9.out).mono ?_
                rintro e w10 ⟨hb10, he10⟩
                rw [htk] at he10
                obtain ⟨u10, q10, hu10, he10, hR10, hd10⟩ := he10
                have hu10 : u10 = tkA s := hu10
                have hq10 : q7 ≤ q10 := by
                  have l2 := congrArg List.length hd10
                  have := hR10.le
                  cases hdd : ts.drop q7 with
                  | nil => rw [hdd] at htk; simp [Gr.takeP] at htk
                  | cons z zs =>
                    rw [hdd] at htk
                    have l1 := congrArg List.length hdd
                    simp only [Gr.takeP] at htk
                    split at htk
                    · simp at htk
                      simp only [List.length_drop, List.length_cons] at l1 l2
                      rw [← htk.2] at l2
                      omega
                    · simp at htk
                clear htk
                subst hu10
                subst he10
                simp only [tkA]
                have k10 : Kt (fun t => t ≠ 90) w9 w10 := Kt.bes hb10 HR9.out.row (by simp)
                have HC10 := Lib.hid (k10 _ _ _ HC9.out (by decide))
                have HL10 := Lib.hid (AtmsV.kt HL9.out k10 (by decide) (by decide))
                have HO10 := Lib.hid (HO9.out.bes hb10 (.inl (.inl rfl)))
                have HR10 := Lib.hid hR10
                have HD10 := Lib.hid hd10
                clear k10 hb10 hR10 hd10
                have HKN : Hid (∀ res', Gr.FactsR f (xs ++ [x]).length (ts.drop q10) res' → Gr.FactsR f 0 ts (preF (xs ++ [x]) res')) := Lib.hid (by
                  intro res' h
                  rw [List.length_append, List.length_singleton, HD10.out] at h
                  have hk := HK.out
                  have h1 := HRES.out
                  have h2 := HTK.out
                  rw [HD.out] at hk h1
                  rw [HD7.out] at h2
                  cases res' with
                  | error e => exact hk (.error e) (.more _ _ _ _ _ _ _ _ H0.out HN.out h1 h2 h)
                  | ok ys =>
                    have := hk (.ok (x :: ys)) (.moreOk _ _ _ _ _ _ _ _ H0.out HN.out h1 h2 h)
                    simpa [preF] using this)
                go_wp2
                go_roundw
                case rel => exact ⟨xs ++ [x], q10, Lib.hid ⟨_, HC10.out, HL10.out⟩, HR10, HO10, HKN, by simp; omega⟩
                case measure => exact rdr_less HA.out HR10.out (by omega) rfl
        · have em : decide ((xs.length : Int) ≥ 4096) = false := decide_eq_false (by omega)
          have em' : decide (4096 ≤ xs.length) = false := decide_eq_false (by omega)
          have HN := Lib.hid (show ¬ (xs.length ≥ 4096 ∧ t.kind = 1) from fun h => hm h.1)
          clear hm hd
          obtain ⟨w2, hw2⟩ : ∃ w2, w2 = w1 := ⟨_, rfl⟩
          rw [← hw2] at HR1 HO1 HC1 HV1 s0 g0 ⊢
          have HR2 := HR1
          have HO2 := HO1
          have HC2 := HC1
          have HV2 := HV1
          clear hw2
          go_upto_region 3 with fail
          have HRd2 := Lib.hid HR2.out.drew
          have HOd2 := Lib.hid (HO2.out.up (drew_below w2 _))
          have kd : Kt (fun _ => True) w2 w2.drew := Kt.drew w2
          have HCd2 := Lib.hid (kd _ _ _ HC2.out trivial)
          have HVd2 := Lib.hid (AtmsV.kt HV2.out kd trivial trivial)
          clear kd
          refine wp_region_T (fun x => x.cell? ⟨C, 0, none⟩ = some (.slice sa xs.length sc)) 5 (by kernel_rfl) ?_
          have hS : w2.drew.cell? ⟨C, 0, none⟩ = some (.slice sa xs.length sc) := s0
          refine wpAnyT_tk 0 _ ?_ rfl rfl (by kernel_rfl) (fun _ _ _ h => h) (by assumption) (Or.inl ⟨by rfl, fun x hx => ?_⟩) ?_
          rotate_left
          · have hx2 : x.cell? ⟨C, 0, none⟩ = some (.slice sa xs.length sc) := hx
            clear hx
            go_simp
            try with_reducible rfl
          try simp only [Act.put, List.setIfInBounds_toArray, List.set_cons_zero, List.set_cons_succ]
          refine wpAnyT_tk 1 _ ?_ rfl rfl (by kernel_rfl) (fun _ _ _ h => h) (by assumption) (Or.inl ⟨by rfl, fun x hx => ?_⟩) ?_
          rotate_left
          · have hx2 : x.cell? ⟨C, 0, none⟩ = some (.slice sa xs.length sc) := hx
            clear hx
            go_simp
            try with_reducible rfl
          try simp only [Act.put, List.setIfInBounds_toArray, List.set_cons_zero, List.set_cons_succ]
          refine wpAnyT_one 2 rfl (by kernel_rfl) (fun K' hK' => ?_)
          go_simp
          go_at_call 25
          refine (atom_any X v ts q f _ false HRd2.out).mono ?_
          rintro e w7 ⟨hb7, he7⟩
          cases hat : Gr.atomP f false (ts.drop q) with
          | error F =>
            have HE : Hid (Gr.FactsR f 0 ts (.error F)) := Lib.hid (HK.out (.error F) (by rw [HD.out] at hat ⊢; exact .bad _ _ _ _ H0.out HN.out hat))
            rw [hat] at he7
            have he7 : e = gvE F := he7
            clear hat
            subst he7
            exact ⟨rfl, _, HE.out, HOd2.out.bes hb7 (.inl (.inl rfl)), rfl⟩
          | ok xr =>
            obtain ⟨x, r1⟩ := xr
            rw [hat] at he7
            obtain ⟨u7, q7, ⟨sl, hu7, ho7⟩, he7, hR7, hd7⟩ := he7
            have hq7 : q < q7 := by
              obtain ⟨p, hp, _⟩ := Gr.atomP_less hat
              have l0 := congrArg List.length hp
              have l2 := congrArg List.length hd7
              have := hR7.le
              simp only [List.length_drop, List.length_append] at l0 l2
              omega
            have HRES := Lib.hid hat
            clear hat
            subst hu7
            subst he7
            obtain ⟨ea, ec, rfl⟩ : ∃ ea ec, sl = .slice ea x.args.length ec := by
              rcases Joins.ownsRow_forms ho7 with ⟨h5, h6⟩ | ⟨g, cap, h5⟩
              · exact ⟨none, 0, by rw [h5]; rw [h6]⟩
              · exact ⟨_, cap, h5⟩
            obtain ⟨ln, hln⟩ : ∃ ln, ln = x.args.length := ⟨_, rfl⟩
            rw [← hln] at ho7 ⊢
            have hrow : AtmC w.heap.size w7 x (atmL x (.slice ea ln ec)) := ⟨_, rfl, by rw [hln] at ho7 ⊢; exact World.ownsRow.mono ho7 HOd2.out.size⟩
            clear hln ho7
            have k7 : Kt (fun t => t ≠ 90) w2.drew w7 := Kt.bes hb7 HRd2.out.row (by simp)
            have hc7 := k7 _ _ _ HCd2.out (by decide)
            obtain ⟨rows, hA, hOw⟩ := AtmsV.kt HVd2.out k7 (by decide) (by decide)
            have HA7 := Lib.hid hA
            have HW7 := Lib.hid hOw
            have HX7 := Lib.hid hrow
            have HO7 := Lib.hid (HOd2.out.bes hb7 (.inl (.inl rfl)))
            have HR7 := Lib.hid hR7
            have HD7 := Lib.hid hd7
            have HC7 := Lib.hid hc7
            have HZ7 := Lib.hid HO7.out.size
            have hS7 := (row1c hc7).1
            have hS8 : (w7.alloc (.cells (atmL x (.slice ea ln ec)).toArray 32)).cell? ⟨C, 0, none⟩ = some (.slice sa xs.length sc) := (row1c (Kt.alloc (T := fun _ => True) w7 _ _ _ _ hc7 trivial)).1
            clear hb7 hR7 hd7 k7 hc7 hA hOw hrow hS s0 g0
            simp only [atmL] at hS8 ⊢
            refine hK' _ _ (fun _ => hS7) ?_
            clear hK' K'
            try simp only [Act.put, List.setIfInBounds_toArray, List.set_cons_zero, List.set_cons_succ]
            refine wpAnyT_one 3 rfl (by kernel_rfl) (fun K' hK' => ?_)
            go_simp
            refine hK' _ _ (fun _ => hS8) ?_
            clear hK' K'
            try simp only [Act.put, List.setIfInBounds_toArray, List.set_cons_zero, List.set_cons_succ]
            refine wpAnyT_one 4 rfl (by kernel_rfl) (fun K' hK' => ?_)
            refine step_append_own _ (by rfl) _ _ 39 (by rfl) w.heap.size 32 iE (.agg #[.string noS, .slice none 0 0, .int .i64 0]) 3 48 Tryz.underlying39 bi b0 b1 b2 rfl (by decide) (.slice sa xs.length sc) xs.length rows.flatten (by rfl) (by exact HW7.out.alloc _) ⟨w7.heap.size, 0, none⟩ 1 1 (atmL x (.slice ea ln ec)) (by rfl) (by rfl) (World.news_of_block (cs := (atmL x (.slice ea ln ec)).toArray) (t := 32) (fr := (0, 0)) (heap_alloc_new w7 _)) (atmL_one x) (by unfold maxLen; omega) (by omega) (by have := HZ7.out; simp; omega) ?_
            intro v8 w8 hown8 hgrow8 _
            have HL8 := Lib.hid (rows_push HA7.out HW7.out HX7.out hgrow8 hown8 (fun x r h k => h.kt k (by decide)))
            have HO8 := Lib.hid ((HO7.out.alloc _).grown hgrow8 (HW7.out.alloc _) (Nat.le_refl _))
            have k8 : Kt (fun t => t ≠ 32) w7 w8 := (Kt.alloc w7 _).trans (Kt.grown hgrow8 (HW7.out.alloc _) (by simp))
            have HR8 := Lib.hid (HR7.out.kt k8 (by decide) (by decide))
            have hc8 := k8 _ _ _ HC7.out (by decide)
            have HC8 := Lib.hid hc8
            obtain ⟨g8, c8, rfl⟩ := Joins.ownsRow_form hown8 (by omega)
            obtain ⟨hS9, hF9⟩ := row1c hc8
            clear hown8 hgrow8 hS7 hS8 k8 hc8
            refine hK' _ _ (fun _ => hS9) ?_
            clear hK' K'
            try simp only [Act.put, List.setIfInBounds_toArray, List.set_cons_zero, List.set_cons_succ]
            refine wpAnyT_one 5 rfl (by kernel_rfl) (fun K' hK' => ?_)
            go_simp
            refine hK' _ _ (fun h => absurd rfl h) ?_
            clear hK' K'
            try simp only [Act.put, List.setIfInBounds_toArray, List.set_cons_zero, List.set_cons_succ]
            refine wpAnyT_done (by kernel_rfl) ?_ _
            clear hS9 hF9
            obtain ⟨w9, hw9⟩ : ∃ w9, w9 = w8.setCell ⟨C, 0, none⟩ (.slice (some ⟨g8, 0, none⟩) (xs.length + 1) c8) := ⟨_, rfl⟩
            rw [← hw9]
            have k9 : Kt (fun t => t ≠ 39) w8 w9 := by rw [hw9]; exact Kt.set (p := ⟨C, 0, none⟩) HC8.out (by simp)
            have HR9 := Lib.hid (HR8.out.kt k9 (by decide) (by decide))
            have HO9 : Hid (Oth (fun k => k = X ∨ k = C) w w9) := Lib.hid (by rw [hw9]; exact HO8.out.set (p := ⟨C, 0, none⟩) (.inl (.inr rfl)) _)
            have HC9 : Hid (w9.heap[C]? = some (.cells #[.slice (some ⟨g8, 0, none⟩) (xs.length + 1) c8] 39)) := Lib.hid (by rw [hw9]; exact one_setc HC8.out)
            have HL9 := Lib.hid (AtmsV.kt HL8.out k9 (by decide) (by decide))
            clear hw9 k9 HR8 HO8 HC8 HL8 HR7 HO7 HC7
            go_wp2_with fail
            cases htk : Gr.takeP f 8 (ts.drop q7) with
            | error F =>
              have HE : Hid (Gr.FactsR f 0 ts (.error F)) := Lib.hid (HK.out (.error F) (by have h1 := HRES.out; rw [HD.out] at h1 ⊢; rw [HD7.out] at htk; exact .undot _ _ _ _ _ _ H0.out HN.out h1 htk))
              refine (take_any X v ts q7 f _ 8 HR9.out).mono ?_
              rintro e w10 ⟨hb10, he10⟩
              rw [htk] at he10
              have he10 : e = gvE F := he10
              clear htk
              subst he10
              exact ⟨rfl, _, HE.out, HO9.out.bes hb10 (.inl (.inl rfl)), rfl⟩
            | ok sr =>
              obtain ⟨s, r2⟩ := sr
              have HTK := Lib.hid htk
              refine (take_any X v ts q7 f _ 8 HR9.out).mono ?_
              rintro e w10 ⟨hb10, he10⟩
              rw [htk] at he10
              obtain ⟨u10, q10, hu10, he10, hR10, hd10⟩ := he10
              have hu10 : u10 = tkA s := hu10
              have hq10 : q7 ≤ q10 := by
                have l2 := congrArg List.length hd10
                have := hR10.le
                cases hdd : ts.drop q7 with
                | nil => rw [hdd] at htk; simp [Gr.takeP] at htk
                | cons z zs =>
                  rw [hdd] at htk
                  have l1 := congrArg List.length hdd
                  simp only [Gr.takeP] at htk
                  split at htk
                  · simp at htk
                    simp only [List.length_drop, List.length_cons] at l1 l2
                    rw [← htk.2] at l2
                    omega
                  · simp at htk
              clear htk
              subst hu10
              subst he10
              simp only [tkA]
              have k10 : Kt (fun t => t ≠ 90) w9 w10 := Kt.bes hb10 HR9.out.row (by simp)
              have HC10 := Lib.hid (k10 _ _ _ HC9.out (by decide))
              have HL10 := Lib.hid (AtmsV.kt HL9.out k10 (by decide) (by decide))
              have HO10 := Lib.hid (HO9.out.bes hb10 (.inl (.inl rfl)))
              have HR10 := Lib.hid hR10
              have HD10 := Lib.hid hd10
              clear k10 hb10 hR10 hd10
              have HKN : Hid (∀ res', Gr.FactsR f (xs ++ [x]).length (ts.drop q10) res' → Gr.FactsR f 0 ts (preF (xs ++ [x]) res')) := Lib.hid (by
                intro res' h
                rw [List.length_append, List.length_singleton, HD10.out] at h
                have hk := HK.out
                have h1 := HRES.out
                have h2 := HTK.out
                rw [HD.out] at hk h1
                rw [HD7.out] at h2
                cases res' with
                | error e => exact hk (.error e) (.more _ _ _ _ _ _ _ _ H0.out HN.out h1 h2 h)
                | ok ys =>
                  have := hk (.ok (x :: ys)) (.moreOk _ _ _ _ _ _ _ _ H0.out HN.out h1 h2 h)
                  simpa [preF] using this)
              go_wp2
              go_roundw
              case rel => exact ⟨xs ++ [x], q10, Lib.hid ⟨_, HC10.out, HL10.out⟩, HR10, HO10, HKN, by simp; omega⟩
              case measure => exact rdr_less HA.out HR10.out (by omega) rfl
end Go.Proofs.YtncdjkdpoinfaaaGreatDoor
