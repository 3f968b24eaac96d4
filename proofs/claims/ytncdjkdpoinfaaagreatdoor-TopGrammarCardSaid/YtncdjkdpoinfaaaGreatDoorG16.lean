/-
  Texts of this seat, one behind the other: W37, W38, K9. Conditions: those that each of them states.
-/
import Derived.Test.YtncdjkdpoinfaaaGreatDoorG14
import Derived.Test.YtncdjkdpoinfaaaGreatDoorG15
/-
  The walk of parse's body. Conditions: the reader lies in memory.
-/
namespace Go.Proofs.YtncdjkdpoinfaaaGreatDoor
open Go.RowKit Go.Shelf Pl

def preB (xs : List Gr.Lit) : Gr.Res (List Gr.Lit) → Gr.Res (List Gr.Lit)
  | .error e => .error e
  | .ok (ys, r) => .ok (xs ++ ys, r)
theorem lit_nobegin {f : Gr.Flt} {t : Tk} {r : List Tk} (h : beginB t.kind = false) : Gr.litP f (t :: r) = .error (Gr.ref t) := by
  simp only [beginB, Bool.or_eq_false_iff, decide_eq_false_iff_not] at h
  have h1 : t.kind ≠ 1 := fun e => by have := h.2; simp [Gr.isT, e] at this
  simp [Gr.litP, h.1, h1, Gr.termP, h.2]
theorem not_many {n k : Nat} (h : ¬ (n ≥ 16 ∧ beginB k = true)) : ¬ (n ≥ 16 ∧ (k = 10 ∨ Gr.isT true k = true)) := by
  intro ⟨h1, h2⟩
  exact h ⟨h1, by simp [beginB, h2]⟩

set_option maxRecDepth 100000 in
set_option maxHeartbeats 6400000 in
theorem body_any (X : Nat) (v : Value) (ts : List Tk) (a : Nat) (f : Gr.Flt) (w : World) (hR : Rdr w X v ts a f) :
    Calls Tryz.prog 28 #[.pointer (some ⟨X, 0, none⟩)] w (BodyIs X v ts f w (ts.drop a)) := by
  obtain ⟨i101, bi, b0, b1, b2⟩ := info_parts Tryz.info101
  have hf0 := fld0
  have hX := hR.lt
  have hfew := hR.few
  have HP := Lib.hid hR
  have HBr : Hid (Bes X w w) := Lib.hid (Bes.refl X w)
  have HL0 : Hid (LitsV w.heap.size [] w (.slice none 0 0)) := Lib.hid RowsV.nil
  have HK0 : Hid (∀ res', Gr.BodyR f ([] : List Gr.Lit).length (ts.drop a) res' → Gr.BodyR f 0 (ts.drop a) (preB [] res')) := Lib.hid (by
    intro res' h
    cases res' with
    | error e => exact h
    | ok y => exact h)
  go_enter Tryz.func28, Tryz.ntmps28
  go_wp2
  go_loopw [3] (fun d wr => ∃ (xs : List Gr.Lit) (q : Nat), Hid (LitsV w.heap.size xs wr d) ∧ Hid (Rdr wr X v ts q f) ∧ Hid (Bes X w wr) ∧ Hid (∀ res', Gr.BodyR f xs.length (ts.drop q) res' → Gr.BodyR f 0 (ts.drop a) (preB xs res')) ∧ xs.length ≤ q) (fun _ wr => ts.length - atOf wr X)
  case atStart => exact ⟨[], a, HL0, HP, HBr, HK0, by simp⟩
  case round =>
    obtain ⟨xs, q, HL, HRd, HB, HK, hxq⟩ := hrel
    clear HL0 HP HBr HK0
    have HA := Lib.hid HRd.out.atOf
    obtain ⟨sa, sc, rfl⟩ := HL.out.form
    have hq := HRd.out.le
    cases hd : ts.drop q with
    | nil =>
      have HD := Lib.hid hd
      have HE : Hid (Gr.BodyR f 0 (ts.drop a) (.error f)) := Lib.hid (HK.out (.error f) (by rw [hd]; exact .none _))
      clear hd
      by_cases h16 : xs.length ≥ 16
      · have e16 : decide ((xs.length : Int) ≥ 16) = true := decide_eq_true (by omega)
        have e16' : decide (16 ≤ xs.length) = true := decide_eq_true (by omega)
        clear h16
        go_wp2_with fail
        refine (peek_none X v ts q f _ HD.out HRd.out).mono ?_
        rintro e w5 ⟨rfl, hb5⟩
        exact ⟨rfl, _, HE.out, HB.out.trans (Bes.of hb5), rfl⟩
      · have e16 : decide ((xs.length : Int) ≥ 16) = false := decide_eq_false (by omega)
        have e16' : decide (16 ≤ xs.length) = false := decide_eq_false (by omega)
        clear h16
        go_wp2_with fail
        refine (literal_any X v ts q f _ HRd.out).mono ?_
        rintro e w5 ⟨hb5, he5⟩
        rw [HD.out] at he5
        have he5 : e = gvE f := he5
        subst he5
        exact ⟨rfl, _, HE.out, HB.out.trans hb5, rfl⟩
    | cons t r =>
      have HD := Lib.hid hd
      by_cases h16 : xs.length ≥ 16
      · have e16 : decide ((xs.length : Int) ≥ 16) = true := decide_eq_true (by omega)
        have e16' : decide (16 ≤ xs.length) = true := decide_eq_true (by omega)
        cases hbg : beginB t.kind with
        | true =>
          have HE : Hid (Gr.BodyR f 0 (ts.drop a) (.error (23, t.off))) := Lib.hid (HK.out (.error (23, t.off)) (by rw [hd]; exact .many _ _ _ h16 (by simpa [beginB] using hbg)))
          have HG := Lib.hid hbg
          clear hd h16 hbg
          go_wp2_with fail
          refine (peek_some X v ts q f _ t r HD.out HRd.out).mono ?_
          rintro e w5 ⟨rfl, hb5⟩
          simp only [tkA]
          have HR5 := Lib.hid (HRd.out.below hb5)
          have HB5 := Lib.hid (HB.out.trans (Bes.of hb5))
          clear hb5
          go_wp2_with fail
          refine (canBegin_any t.kind _).mono ?_
          rintro e w6 ⟨rfl, hq6⟩
          rw [hq6, HG.out]
          clear hq6 w6
          go_wp2_with fail
          refine (stop_some X v ts q f _ t r 23 HD.out HR5.out).mono ?_
          rintro e w6 ⟨rfl, hb6⟩
          exact ⟨rfl, _, HE.out, HB5.out.trans (Bes.of hb6), rfl⟩
        | false =>
          have hlit := lit_nobegin (f := f) (r := r) hbg
          have HE : Hid (Gr.BodyR f 0 (ts.drop a) (.error (Gr.ref t))) := Lib.hid (HK.out (.error (Gr.ref t)) (by rw [hd]; exact .bad _ _ _ _ (not_many (by simp [hbg])) hlit))
          have HLT := Lib.hid hlit
          have HG := Lib.hid hbg
          clear hd h16 hbg hlit
          go_wp2_with fail
          refine (peek_some X v ts q f _ t r HD.out HRd.out).mono ?_
          rintro e w5 ⟨rfl, hb5⟩
          simp only [tkA]
          have HR5 := Lib.hid (HRd.out.below hb5)
          have HB5 := Lib.hid (HB.out.trans (Bes.of hb5))
          clear hb5
          go_wp2_with fail
          refine (canBegin_any t.kind _).mono ?_
          rintro e w6 ⟨rfl, hq6⟩
          rw [hq6, HG.out]
          clear hq6 w6
          go_wp2_with fail
          refine (literal_any X v ts q f _ HR5.out).mono ?_
          rintro e w7 ⟨hb7, he7⟩
          rw [HD.out, HLT.out] at he7
          have he7 : e = gvE (Gr.ref t) := he7
          subst he7
          exact ⟨rfl, _, HE.out, HB5.out.trans hb7, rfl⟩
      · have e16 : decide ((xs.length : Int) ≥ 16) = false := decide_eq_false (by omega)
        have e16' : decide (16 ≤ xs.length) = false := decide_eq_false (by omega)
        have HN := Lib.hid (show ¬ (xs.length ≥ 16 ∧ (t.kind = 10 ∨ Gr.isT true t.kind = true)) from fun h => h16 h.1)
        have HN16 := Lib.hid h16
        clear h16
        cases hlit : Gr.litP f (ts.drop q) with
        | error F =>
          have HE : Hid (Gr.BodyR f 0 (ts.drop a) (.error F)) := Lib.hid (HK.out (.error F) (by rw [hd] at hlit ⊢; exact .bad _ _ _ _ HN.out hlit))
          have HLT := Lib.hid hlit
          clear hd hlit
          go_wp2_with fail
          refine (literal_any X v ts q f _ HRd.out).mono ?_
          rintro e w7 ⟨hb7, he7⟩
          rw [HLT.out] at he7
          have he7 : e = gvE F := he7
          subst he7
          exact ⟨rfl, _, HE.out, HB.out.trans hb7, rfl⟩
        | ok xr =>
          obtain ⟨x, r1⟩ := xr
          have HLT := Lib.hid hlit
          clear hlit
          go_wp2_with fail
          refine (literal_any X v ts q f _ HRd.out).mono ?_
          rintro e w7 ⟨hb7, he7⟩
          rw [HLT.out] at he7
          obtain ⟨u7, q7, ⟨sl, hu7, ho7⟩, he7, hR7, hd7⟩ := he7
          subst hu7
          subst he7
          obtain ⟨ea, ec, rfl⟩ : ∃ ea ec, sl = .slice ea x.atom.args.length ec := by
            rcases Joins.ownsRow_forms ho7 with ⟨h5, h6⟩ | ⟨g, cap, h5⟩
            · exact ⟨none, 0, by rw [h5]; rw [h6]⟩
            · exact ⟨_, cap, h5⟩
          obtain ⟨ln, hln⟩ : ∃ ln, ln = x.atom.args.length := ⟨_, rfl⟩
          rw [← hln] at ho7 ⊢
          have hrow : LitC w.heap.size w7 x (litL x (.slice ea ln ec)) := ⟨_, rfl, by rw [hln] at ho7 ⊢; exact World.ownsRow.mono ho7 HB.out.size⟩
          clear hln
          have hq7 : q < q7 := by
            by_cases hlt : q < q7
            · exact hlt
            · exfalso
              obtain ⟨p, hp, hpr⟩ := Gr.litP_less HLT.out
              have l1 := congrArg List.length hp
              have l2 := congrArg List.length hd7
              have := hR7.le
              simp only [List.length_append, List.length_drop] at l1 l2
              omega
          have k7 : Kt (fun t => t ≠ 90) _ w7 := Kt.bes hb7 HRd.out.row (by simp)
          obtain ⟨rows, hA, hO⟩ := HL.out.kt k7 (by decide) (by decide)
          have HA7 := Lib.hid hA
          have HO7 := Lib.hid hO
          have HX7 := Lib.hid hrow
          have HB7 := Lib.hid (HB.out.trans hb7)
          have HR7 := Lib.hid hR7
          have HD7 := Lib.hid hd7
          have hbz := HB7.out.size
          have hxn : xs.length ≤ 70000 := by omega
          have HBZ := Lib.hid hbz
          clear hb7 hR7 hd7 ho7 k7 hA hO hrow hd hbz
          simp only [litL]
          go_wp2_with (at_builtin; refine wpList_append_own _ rfl _ _ 33 rfl w.heap.size 101 i101 (.agg #[.int .i64 0, .string noS, .slice none 0 0, .int .i64 0, .int .i64 0, .int .i64 0, .int .i64 0, .string noS, .int .i64 0, .int .i64 0, .int .i64 0, .string noS, .int .i64 0, .int .i64 0]) 14 152 Tryz.underlying33 bi b0 b1 b2 rfl (by decide) (.slice sa xs.length sc) xs.length rows.flatten rfl (HO7.out.alloc _) ⟨w7.heap.size, 0, none⟩ 1 1 (litL x (.slice ea ln ec)) rfl rfl (World.news_of_block (cs := (litL x (.slice ea ln ec)).toArray) (t := 101) (fr := (0, 0)) (heap_alloc_new w7 _)) (litL_one x) (by unfold maxLen; omega) (by omega) (by have := HBZ.out; simp; omega) ?_; intro v8 w8 hown8 hgrow8 hnl8; have HL8 := Lib.hid (rows_push HA7.out HO7.out HX7.out hgrow8 hown8 (fun x r h k => h.kt k (by decide))); have HB8 := Lib.hid (grown_bes (HB7.out.alloc _) hgrow8 (HO7.out.alloc _) (Nat.le_refl _)); have HR8 := Lib.hid (HR7.out.kt (T := fun t => t ≠ 101) ((Kt.alloc w7 _).trans (Kt.grown hgrow8 (HO7.out.alloc _) (by simp))) (by decide) (by decide)); obtain ⟨g8, c8, rfl⟩ := Joins.ownsRow_form hown8 (by omega); clear hown8 hgrow8 hnl8)
          cases r1 with
          | nil =>
            have HE : Hid (Gr.BodyR f 0 (ts.drop a) (.error f)) := Lib.hid (HK.out (.error f) (by have := HLT.out; rw [HD.out] at this ⊢; exact .ends _ _ _ _ HN.out this))
            refine (peek_none X v ts q7 f _ HD7.out HR8.out).mono ?_
            rintro e w9 ⟨rfl, hb9⟩
            exact ⟨rfl, _, HE.out, HB8.out.trans (Bes.of hb9), rfl⟩
          | cons s2 r2 =>
            refine (peek_some X v ts q7 f _ s2 r2 HD7.out HR8.out).mono ?_
            rintro e w9 ⟨rfl, hb9⟩
            simp only [tkA]
            have HR9 := Lib.hid (HR8.out.below hb9)
            have HB9 := Lib.hid (HB8.out.trans (Bes.of hb9))
            have HL9 := Lib.hid (LitsV.kt HL8.out (Kt.below (T := fun _ => True) hb9) trivial trivial)
            clear hb9 HL8 HB8 HR8
            have hlt7 := (drop_at HD7.out).1
            have HD8 := Lib.hid (drop_at HD7.out).2.2
            have hw : IntKind.i64.wrap ((q7 : Int) + 1) = ((q7 + 1 : Nat) : Int) := by rw [IntKind.wrap_i64]; omega
            obtain ⟨c0, c1, c2, c4, fz⟩ := HR9.out.cells
            have HRn := Lib.hid (HR9.out.set (q := q7 + 1) hlt7)
            have HBn : Hid (Bes X w (w9.setCell ⟨X, 1, none⟩ (.int .i64 ((q7 : Int) + 1)))) := Lib.hid (HB9.out.set (p := ⟨X, 1, none⟩) (.inl rfl) _)
            have HLn : Hid (LitsV w.heap.size (xs ++ [x]) (w9.setCell ⟨X, 1, none⟩ (.int .i64 ((q7 : Int) + 1))) (.slice (some ⟨g8, 0, none⟩) (xs.length + 1) c8)) := Lib.hid (HL9.out.kt (Q := fun t => t ≠ 90) (Kt.set (p := ⟨X, 1, none⟩) HR9.out.row (by simp)) (by decide) (by decide))
            by_cases h7 : s2.kind = 7
            · have e7 : ((s2.kind : Int) == 7) = true := by simp; omega
              have HKN : Hid (∀ res', Gr.BodyR f (xs ++ [x]).length (ts.drop (q7 + 1)) res' → Gr.BodyR f 0 (ts.drop a) (preB (xs ++ [x]) res')) := Lib.hid (by
                intro res' h
                rw [List.length_append, List.length_singleton, HD8.out] at h
                have hl := HLT.out
                have hk := HK.out
                rw [HD.out] at hl hk
                cases res' with
                | error e => exact hk (.error e) (.comma _ _ _ _ _ _ _ HN.out hl h7 h)
                | ok y =>
                  obtain ⟨ys, r'⟩ := y
                  have := hk (.ok (x :: ys, r')) (.commaOk _ _ _ _ _ _ _ _ HN.out hl h7 h)
                  simpa [preB] using this)
              clear h7
              go_wp2
              go_roundw
              case rel => exact ⟨xs ++ [x], q7 + 1, (by first | exact HLn | go_num), HRn, HBn, HKN, by simp; omega⟩
              case measure => exact rdr_less HA.out HRn.out (by omega) rfl
            · have e7 : ((s2.kind : Int) == 7) = false := by simp; omega
              by_cases h8 : s2.kind = 8
              · have e8 : ((s2.kind : Int) == 8) = true := by simp; omega
                have HE : Hid (Gr.BodyR f 0 (ts.drop a) (.ok (xs ++ [x], r2))) := Lib.hid (by
                  have hl := HLT.out
                  have hk := HK.out
                  rw [HD.out] at hl hk
                  exact hk (.ok ([x], r2)) (.dot _ _ _ _ _ _ HN.out hl h8))
                clear h7 h8
                go_wp2
                go_ret
                exact ⟨_, HE.out, HBn.out, _, q7 + 1, HLn.out, rfl, HRn.out, HD8.out⟩
              · have e8 : ((s2.kind : Int) == 8) = false := by simp; omega
                have HE : Hid (Gr.BodyR f 0 (ts.drop a) (.error (Gr.ref s2))) := Lib.hid (by
                  have hl := HLT.out
                  have hk := HK.out
                  rw [HD.out] at hl hk
                  exact hk (.error (Gr.ref s2)) (.other _ _ _ _ _ _ HN.out hl h7 h8))
                clear h7 h8
                go_wp2_with fail
                refine (refuse_some X v ts q7 f _ s2 r2 HD7.out HR9.out).mono ?_
                rintro e w10 ⟨rfl, hb10⟩
                exact ⟨rfl, _, HE.out, HB9.out.trans (Bes.of hb10), rfl⟩
end Go.Proofs.YtncdjkdpoinfaaaGreatDoor
/-
  The walk of parse's clause. Conditions: the reader lies in memory.
-/
namespace Go.Proofs.YtncdjkdpoinfaaaGreatDoor
open Go.RowKit Go.Shelf Pl

theorem Tryz.size35 : (Tryz.prog.info? 35).map (·.size) = some 4 := by kernel_rfl
theorem rowQ {w : World} {B : Nat} {T : TypeId} {a b c d : Value} (h : w.heap[B]? = some (.cells #[a, b, c, d] T)) :
    w.cell? ⟨B, 0, none⟩ = some a ∧ w.cell? ⟨B, 1, none⟩ = some b ∧ w.cell? ⟨B, 2, none⟩ = some c ∧ w.cell? ⟨B, 3, none⟩ = some d ∧
    w.frozen? ⟨B, 0, none⟩ = false ∧ w.frozen? ⟨B, 1, none⟩ = false ∧ w.frozen? ⟨B, 2, none⟩ = false ∧ w.frozen? ⟨B, 3, none⟩ = false := by
  refine ⟨?_, ?_, ?_, ?_, ?_, ?_, ?_, ?_⟩ <;> simp only [World.cell?, World.frozen?, h] <;> rfl
theorem quad_set {w : World} {R : Nat} {T : TypeId} {x0 x1 x2 x3 u0 u1 u2 u3 : Value} (h : w.heap[R]? = some (.cells #[u0, u1, u2, u3] T)) :
    ((((w.setCell ⟨R, 0, none⟩ x0).setCell ⟨R, 1, none⟩ x1).setCell ⟨R, 2, none⟩ x2).setCell ⟨R, 3, none⟩ x3).heap[R]? = some (.cells #[x0, x1, x2, x3] T) := by
  simp [World.setCell, Array.getElem?_modify, h]
theorem quad_bes {w0 w : World} {X R : Nat} {x0 x1 x2 x3 : Value} (h : Bes X w0 w) (hR : w0.heap.size ≤ R) :
    Bes X w0 ((((w.setCell ⟨R, 0, none⟩ x0).setCell ⟨R, 1, none⟩ x1).setCell ⟨R, 2, none⟩ x2).setCell ⟨R, 3, none⟩ x3) :=
  (((h.set (.inr hR) _).set (.inr hR) _).set (.inr hR) _).set (.inr hR) _
theorem quad_kt {T : TypeId → Prop} {w : World} {R : Nat} {t0 : TypeId} {x0 x1 x2 x3 u0 u1 u2 u3 : Value} (h : w.heap[R]? = some (.cells #[u0, u1, u2, u3] t0)) (hT : ¬ T t0) :
    Kt T w ((((w.setCell ⟨R, 0, none⟩ x0).setCell ⟨R, 1, none⟩ x1).setCell ⟨R, 2, none⟩ x2).setCell ⟨R, 3, none⟩ x3) := fun k c t e ht => by
  rw [four_oth (fun hk => by rw [hk, h] at e; simp at e; exact hT (by rw [e.2]; exact ht))]; exact e
theorem quad_last {w : World} {R : Nat} {T : TypeId} {x3 u0 u1 u2 u3 : Value} (h : w.heap[R]? = some (.cells #[u0, u1, u2, u3] T)) :
    (w.setCell ⟨R, 3, none⟩ x3).heap[R]? = some (.cells #[u0, u1, u2, x3] T) := by
  simp [World.setCell, Array.getElem?_modify, h]
def clsL (x : Gr.Cls) (sl bl : Value) : List Value := [.string ⟨x.head.pred.toArray⟩, sl, .int .i64 (x.head.off : Int), bl]
/-- A clause that was handed back. -/
def ClsV (B : Nat) (x : Gr.Cls) (w : World) (u : Value) : Prop := ∃ sl bl, u = .agg (clsL x sl bl).toArray ∧ w.ownsRow B 59 4 sl x.head.args.length (flatX x.head.args) ∧ LitsV B x.body w bl
/-- What reading a clause ends with. -/
def ClsIs (X : Nat) (v : Value) (ts : List Tk) (f : Gr.Flt) (w : World) (l : List Tk) (e : Ending) (w' : World) : Prop := ∃ res, Gr.ClsR f l res ∧ ParIs X v ts f w (ClsV w.heap.size) res e w'

set_option maxRecDepth 100000 in
set_option maxHeartbeats 6400000 in
theorem clause_any (X : Nat) (v : Value) (ts : List Tk) (a : Nat) (f : Gr.Flt) (w : World) (hR : Rdr w X v ts a f) :
    Calls Tryz.prog 20 #[.pointer (some ⟨X, 0, none⟩)] w (ClsIs X v ts f w (ts.drop a)) := by
  have hf0 := fld0
  have hX := hR.lt
  have hfew := hR.few
  obtain ⟨w1, hw1⟩ : ∃ w1, w1 = w.alloc (.cells #[.string { data := #[] }, .slice none 0 0, .int .i64 0, .slice none 0 0] 35) := ⟨_, rfl⟩
  have hR1 : Rdr w1 X v ts a f := by rw [hw1]; exact hR.alloc _
  have HB1 : Hid (Bes X w w1) := Lib.hid (by rw [hw1]; exact (Bes.refl X w).alloc _)
  have HQ1 : Hid (w1.heap[w.heap.size]? = some (.cells #[.string { data := #[] }, .slice none 0 0, .int .i64 0, .slice none 0 0] 35)) := Lib.hid (by rw [hw1]; exact heap_alloc_new _ _)
  have HR1 := Lib.hid hR1
  have HW1 := Lib.hid hw1
  clear hw1 hR1
  go_enter Tryz.func20, Tryz.ntmps20
  go_upto_region 1 with fail
  rw [← HW1.out]
  go_wp2_with fail
  refine (atom_any X v ts a f _ true HR1.out).mono ?_
  rintro e w2 ⟨hb2, he2⟩
  cases hat : Gr.atomP f true (ts.drop a) with
  | error F =>
    have HE : Hid (Gr.ClsR f (ts.drop a) (.error F)) := Lib.hid (.head _ _ hat)
    rw [hat] at he2
    have he2 : e = gvE F := he2
    clear hat
    subst he2
    exact ⟨rfl, _, HE.out, HB1.out.trans hb2, rfl⟩
  | ok ar =>
    obtain ⟨hd, r⟩ := ar
    rw [hat] at he2
    obtain ⟨u2, q2, ⟨sl, hu2, ho2⟩, he2, hR2, hd2⟩ := he2
    have HAT := Lib.hid hat
    clear hat
    subst hu2
    subst he2
    obtain ⟨ea, ec, rfl⟩ : ∃ ea ec, sl = .slice ea hd.args.length ec := by
      rcases Joins.ownsRow_forms ho2 with ⟨h5, h6⟩ | ⟨g, cap, h5⟩
      · exact ⟨none, 0, by rw [h5]; rw [h6]⟩
      · exact ⟨_, cap, h5⟩
    obtain ⟨ln, hln⟩ : ∃ ln, ln = hd.args.length := ⟨_, rfl⟩
    rw [← hln] at ho2 ⊢
    have HLN := Lib.hid hln
    clear hln
    have k2 : Kt (fun t => t ≠ 90) w1 w2 := Kt.bes hb2 HR1.out.row (by simp)
    have HQ2 := Lib.hid (k2 _ _ _ HQ1.out (by decide))
    have HB2 := Lib.hid (HB1.out.trans hb2)
    have HR2 := Lib.hid hR2
    have HD2 := Lib.hid hd2
    have HO2 := Lib.hid (World.ownsRow.mono ho2 HB1.out.size)
    clear hb2 hR2 hd2 ho2 k2
    go_upto_region 2 with fail
    obtain ⟨w3, hw3⟩ : ∃ w3, w3 = w2.alloc (.cells #[.string ⟨hd.pred.toArray⟩, .slice ea ln ec, .int .i64 (hd.off : Int), .slice none 0 0] 35) := ⟨_, rfl⟩
    rw [← hw3]
    have k3 : Kt (fun _ => True) w2 w3 := by rw [hw3]; exact Kt.alloc _ _
    have HC3 : Hid (w3.heap[w2.heap.size]? = some (.cells #[.string ⟨hd.pred.toArray⟩, .slice ea ln ec, .int .i64 (hd.off : Int), .slice none 0 0] 35)) := Lib.hid (by rw [hw3]; exact heap_alloc_new _ _)
    have HQ3 := Lib.hid (k3 _ _ _ HQ2.out trivial)
    have HB3 : Hid (Bes X w w3) := Lib.hid (by rw [hw3]; exact HB2.out.alloc _)
    have HR3 := Lib.hid (HR2.out.kt k3 trivial trivial)
    have HO3 := Lib.hid (k3.own trivial HO2.out)
    obtain ⟨c, hc0⟩ : ∃ c, c = w2.heap.size := ⟨_, rfl⟩
    rw [← hc0] at HC3 ⊢
    have HC0 : Hid (w.heap.size < c ∧ c ≠ X ∧ w.heap.size ≠ c) := Lib.hid (by
      have h1 := (Array.getElem?_eq_some_iff.1 HQ2.out).1
      have h2 := HR2.out.lt
      omega)
    clear hw3 k3 hc0 HQ2 HB2 HR2 HO2
    cases r with
    | nil =>
      have HE : Hid (Gr.ClsR f (ts.drop a) (.error f)) := Lib.hid (.none _ _ HAT.out)
      go_wp2_with fail
      refine (peek_none X v ts q2 f _ HD2.out HR3.out).mono ?_
      rintro e w4 ⟨rfl, hb4⟩
      exact ⟨rfl, _, HE.out, HB3.out.trans (Bes.of hb4), rfl⟩
    | cons s r =>
      go_wp2_with fail
      refine (peek_some X v ts q2 f _ s r HD2.out HR3.out).mono ?_
      rintro e w4 ⟨rfl, hb4⟩
      simp only [tkA]
      have k4 : Kt (fun _ => True) w3 w4 := Kt.below hb4
      have HC4 := Lib.hid (k4 _ _ _ HC3.out trivial)
      have HQ4 := Lib.hid (k4 _ _ _ HQ3.out trivial)
      have HB4 := Lib.hid (HB3.out.trans (Bes.of hb4))
      have HR4 := Lib.hid (HR3.out.below hb4)
      have HO4 := Lib.hid (k4.own trivial HO3.out)
      clear hb4 k4 HC3 HQ3 HB3 HR3 HO3
      have hlt := (drop_at HD2.out).1
      have HD3 := Lib.hid (drop_at HD2.out).2.2
      have hw : IntKind.i64.wrap ((q2 : Int) + 1) = ((q2 + 1 : Nat) : Int) := by rw [IntKind.wrap_i64]; omega
      obtain ⟨c0, c1, c2, c4, fz⟩ := HR4.out.cells
      obtain ⟨w5, hw5⟩ : ∃ w5, w5 = w4.setCell ⟨X, 1, none⟩ (.int .i64 ((q2 : Int) + 1)) := ⟨_, rfl⟩
      have HW5 := Lib.hid hw5
      have k5 : Kt (fun t => t ≠ 90) w4 w5 := by rw [hw5]; exact Kt.set (p := ⟨X, 1, none⟩) HR4.out.row (by simp)
      have HC5 := Lib.hid (k5 _ _ _ HC4.out (by decide))
      have HQ5 := Lib.hid (k5 _ _ _ HQ4.out (by decide))
      have HB5 : Hid (Bes X w w5) := Lib.hid (by rw [hw5]; exact HB4.out.set (p := ⟨X, 1, none⟩) (.inl rfl) _)
      have HR5 : Hid (Rdr w5 X v ts (q2 + 1) f) := Lib.hid (by rw [hw5]; exact HR4.out.set (q := q2 + 1) hlt)
      have HO5 := Lib.hid (k5.own (by decide) HO4.out)
      have HL5 : Hid (LitsV w.heap.size [] w5 (.slice none 0 0)) := Lib.hid RowsV.nil
      clear hw5 k5
      by_cases h8 : s.kind = 8
      · have e8 : ((s.kind : Int) == 8) = true := by simp; omega
        have HE : Hid (Gr.ClsR f (ts.drop a) (.ok (⟨hd, []⟩, r))) := Lib.hid (.dot _ _ _ _ HAT.out h8)
        clear h8
        go_upto_region 9 with fail
        rw [← HW5.out]
        clear c0 c1 c2 c4 fz
        obtain ⟨e0, e1, e2, e3, z0, z1, z2, z3⟩ := rowQ HC5.out
        obtain ⟨y0, y1, y2, y3, g0, g1, g2, g3⟩ := rowQ HQ5.out
        have HH := Lib.hid (quad_set (x0 := .string ⟨hd.pred.toArray⟩) (x1 := .slice ea ln ec) (x2 := .int .i64 (hd.off : Int)) (x3 := .slice none 0 0) HQ5.out)
        have HBZ := Lib.hid (quad_bes (x0 := .string ⟨hd.pred.toArray⟩) (x1 := .slice ea ln ec) (x2 := .int .i64 (hd.off : Int)) (x3 := .slice none 0 0) HB5.out (Nat.le_refl _))
        have KZ := Lib.hid (quad_kt (T := fun t => t ≠ 35) (x0 := .string ⟨hd.pred.toArray⟩) (x1 := .slice ea ln ec) (x2 := .int .i64 (hd.off : Int)) (x3 := .slice none 0 0) HQ5.out (by simp))
        have HRZ := Lib.hid (HR5.out.kt KZ.out (by decide) (by decide))
        have HOZ := Lib.hid (KZ.out.own (by decide) HO5.out)
        have HLZ := Lib.hid (HL5.out.kt KZ.out (by decide) (by decide))
        go_wp2
        refine bodyPost_ret (results_cell_row rfl _ _ w.heap.size 35 #[.string ⟨hd.pred.toArray⟩, .slice ea ln ec, .int .i64 (hd.off : Int), .slice none 0 0] (0, 0) _ rfl HH.out Tryz.underlying35 rfl Tryz.size35) rfl ?_
        refine ⟨_, HE.out, HBZ.out, _, (q2 + 1), ⟨.slice ea ln ec, .slice none 0 0, rfl, by have := HOZ.out; rw [HLN.out] at this ⊢; exact this, HLZ.out⟩, rfl, HRZ.out, HD3.out⟩
      · have e8 : ((s.kind : Int) == 8) = false := by simp; omega
        by_cases h9 : s.kind = 9
        · have e9 : ((s.kind : Int) == 9) = true := by simp; omega
          have HS9 := Lib.hid h9
          clear h8 h9
          go_upto_region 8 with fail
          rw [← HW5.out]
          clear c0 c1 c2 c4 fz
          go_wp2_with fail
          refine (body_any X v ts (q2 + 1) f _ HR5.out).mono ?_
          rintro e w6 ⟨res, hres, hb6, he6⟩
          rw [HD3.out] at hres
          cases res with
          | error F =>
            have HE : Hid (Gr.ClsR f (ts.drop a) (.error F)) := Lib.hid (.arrow _ _ _ _ _ HAT.out HS9.out hres)
            have he6 : e = gvE F := he6
            subst he6
            exact ⟨rfl, _, HE.out, HB5.out.trans hb6, rfl⟩
          | ok yr =>
            obtain ⟨ys, r6⟩ := yr
            have HE : Hid (Gr.ClsR f (ts.drop a) (.ok (⟨hd, ys⟩, r6))) := Lib.hid (.arrowOk _ _ _ _ _ _ HAT.out HS9.out hres)
            obtain ⟨u6, q6, hu6, he6, hR6, hd6⟩ := he6
            have hu6 : LitsV w5.heap.size ys w6 u6 := hu6
            subst he6
            obtain ⟨ba, bc, rfl⟩ := hu6.form
            obtain ⟨ln2, hln2⟩ : ∃ ln2, ln2 = ys.length := ⟨_, rfl⟩
            rw [← hln2] at hu6 ⊢
            clear hln2
            have k6 : Kt (fun t => t ≠ 90) w5 w6 := Kt.bes hb6 HR5.out.row (by simp)
            have HC6 := Lib.hid (k6 _ _ _ HC5.out (by decide))
            have HQ6 := Lib.hid (k6 _ _ _ HQ5.out (by decide))
            have HB6 := Lib.hid (HB5.out.trans hb6)
            have HR6 := Lib.hid hR6
            have HD6 := Lib.hid hd6
            have HO6 := Lib.hid (k6.own (by decide) HO5.out)
            have HL6 := Lib.hid (hu6.mono HB5.out.size)
            clear hb6 hR6 hd6 k6 hu6 hres
            obtain ⟨e0, e1, e2, e3, z0, z1, z2, z3⟩ := rowQ HC6.out
            go_upto_region 9 with fail
            obtain ⟨w7, hw7⟩ : ∃ w7, w7 = w6.setCell ⟨c, 3, none⟩ (.slice ba ln2 bc) := ⟨_, rfl⟩
            rw [← hw7]
            have k7 : Kt (fun t => t ≠ 35) w6 w7 := by rw [hw7]; exact Kt.set (p := ⟨c, 3, none⟩) HC6.out (by simp)
            have HC7 : Hid (w7.heap[c]? = some (.cells #[.string ⟨hd.pred.toArray⟩, .slice ea ln ec, .int .i64 (hd.off : Int), .slice ba ln2 bc] 35)) := Lib.hid (by rw [hw7]; exact quad_last HC6.out)
            have HQ7 : Hid (w7.heap[w.heap.size]? = some (.cells #[.string { data := #[] }, .slice none 0 0, .int .i64 0, .slice none 0 0] 35)) := Lib.hid (by rw [hw7, Below.heap_setCell _ _ _ _ HC0.out.2.2]; exact HQ6.out)
            have HB7 : Hid (Bes X w w7) := Lib.hid (by rw [hw7]; exact HB6.out.set (p := ⟨c, 3, none⟩) (.inr (Nat.le_of_lt HC0.out.1)) _)
            have HR7 := Lib.hid (HR6.out.kt k7 (by decide) (by decide))
            have HO7 := Lib.hid (k7.own (by decide) HO6.out)
            have HL7 := Lib.hid (HL6.out.kt k7 (by decide) (by decide))
            clear hw7 k7 e0 e1 e2 e3 z0 z1 z2 z3
            obtain ⟨e0, e1, e2, e3, z0, z1, z2, z3⟩ := rowQ HC7.out
            obtain ⟨y0, y1, y2, y3, g0, g1, g2, g3⟩ := rowQ HQ7.out
            have HH := Lib.hid (quad_set (x0 := .string ⟨hd.pred.toArray⟩) (x1 := .slice ea ln ec) (x2 := .int .i64 (hd.off : Int)) (x3 := (.slice ba ln2 bc)) HQ7.out)
            have HBZ := Lib.hid (quad_bes (x0 := .string ⟨hd.pred.toArray⟩) (x1 := .slice ea ln ec) (x2 := .int .i64 (hd.off : Int)) (x3 := (.slice ba ln2 bc)) HB7.out (Nat.le_refl _))
            have KZ := Lib.hid (quad_kt (T := fun t => t ≠ 35) (x0 := .string ⟨hd.pred.toArray⟩) (x1 := .slice ea ln ec) (x2 := .int .i64 (hd.off : Int)) (x3 := (.slice ba ln2 bc)) HQ7.out (by simp))
            have HRZ := Lib.hid (HR7.out.kt KZ.out (by decide) (by decide))
            have HOZ := Lib.hid (KZ.out.own (by decide) HO7.out)
            have HLZ := Lib.hid (HL7.out.kt KZ.out (by decide) (by decide))
            go_wp2
            refine bodyPost_ret (results_cell_row rfl _ _ w.heap.size 35 #[.string ⟨hd.pred.toArray⟩, .slice ea ln ec, .int .i64 (hd.off : Int), (.slice ba ln2 bc)] (0, 0) _ rfl HH.out Tryz.underlying35 rfl Tryz.size35) rfl ?_
            refine ⟨_, HE.out, HBZ.out, _, q6, ⟨.slice ea ln ec, (.slice ba ln2 bc), rfl, by have := HOZ.out; rw [HLN.out] at this ⊢; exact this, HLZ.out⟩, rfl, HRZ.out, HD6.out⟩
        · have e9 : ((s.kind : Int) == 9) = false := by simp; omega
          have HE : Hid (Gr.ClsR f (ts.drop a) (.error (Gr.ref s))) := Lib.hid (.other _ _ _ _ HAT.out h8 h9)
          clear h8 h9
          go_wp2_with fail
          refine (refuse_some X v ts q2 f _ s r HD2.out HR4.out).mono ?_
          rintro e w6 ⟨rfl, hb6⟩
          exact ⟨rfl, _, HE.out, HB4.out.trans (Bes.of hb6), rfl⟩
end Go.Proofs.YtncdjkdpoinfaaaGreatDoor
/-
  What the functions that are handed to parse's guarded turn; lists of clauses and of atoms. No condition beyond those that each lemma states.
-/
namespace Go.Proofs.YtncdjkdpoinfaaaGreatDoor
open Go.RowKit Go.Shelf Pl

section
variable {ex : Nat → Prop} {w0 w w' : World}
theorem Oth.refl (ex : Nat → Prop) (w : World) : Oth ex w w := ⟨rfl, rfl, rfl, Nat.le_refl _, fun _ _ _ => rfl⟩
theorem Oth.trans {w2 : World} (h : Oth ex w0 w) (k : Oth ex w w2) : Oth ex w0 w2 :=
  ⟨k.os.trans h.os, k.tape.trans h.tape, k.output.trans h.output, Nat.le_trans h.size k.size, fun i hi hx => (k.block i (Nat.lt_of_lt_of_le hi h.size) hx).trans (h.block i hi hx)⟩
theorem Oth.bes {X : Nat} (h : Oth ex w0 w) (k : Bes X w w') (hX : ex X ∨ w0.heap.size ≤ X) : Oth ex w0 w' :=
  ⟨k.os.trans h.os, k.tape.trans h.tape, k.output.trans h.output, Nat.le_trans h.size k.size, fun i hi hx => (k.block i (Nat.lt_of_lt_of_le hi h.size) (fun e => by
    rcases hX with hX | hX
    · exact hx (by rw [e]; exact hX)
    · omega)).trans (h.block i hi hx)⟩
theorem Oth.up (h : Oth ex w0 w) (k : Below w.heap.size w w') : Oth ex w0 w' :=
  ⟨k.os.trans h.os, k.tape.trans h.tape, k.output.trans h.output, Nat.le_trans h.size k.size, fun i hi hx => (k.block i (Nat.lt_of_lt_of_le hi h.size)).trans (h.block i hi hx)⟩
theorem Oth.alloc (h : Oth ex w0 w) (o : Obj) : Oth ex w0 (w.alloc o) := h.up (up_alloc w o)
theorem Oth.set (h : Oth ex w0 w) {p : Addr} (hp : ex p.block ∨ w0.heap.size ≤ p.block) (u : Value) : Oth ex w0 (w.setCell p u) :=
  ⟨h.os, h.tape, h.output, by simp [World.setCell]; exact h.size, fun k hk hx => (Below.heap_setCell _ _ _ _ (fun e => by
    rcases hp with hp | hp
    · exact hx (by rw [e]; exact hp)
    · omega)).trans (h.block k hk hx)⟩
theorem Oth.grown {B t m n : Nat} {v : Value} {xs : List Value} (h : Oth ex w0 w) (hg : w.grownBy w' v.ownBlock) (ho : w.ownsRow B t m v n xs) (hB : w0.heap.size ≤ B) : Oth ex w0 w' :=
  ⟨hg.os.trans h.os, hg.tape.trans h.tape, hg.output.trans h.output, Nat.le_trans h.size hg.size, fun k hk hx => by
    rw [hg.block k (Nat.lt_of_lt_of_le hk h.size) (fun e => by have := (World.ownsRow.lt ho k e.symm).1; omega)]
    exact h.block k hk hx⟩
theorem Oth.wide {ex' : Nat → Prop} (h : Oth ex w0 w) (hw : ∀ k, k < w0.heap.size → ex k → ex' k) : Oth ex' w0 w := ⟨h.os, h.tape, h.output, h.size, fun k hk hx => h.block k hk (fun e => hx (hw k hk e))⟩
end

/-- A clause's row. -/
def ClsC (B : Nat) (w : World) (x : Gr.Cls) (row : List Value) : Prop := ∃ sl bl, row = clsL x sl bl ∧ w.ownsRow B 59 4 sl x.head.args.length (flatX x.head.args) ∧ LitsV B x.body w bl
section
variable {B B' : Nat} {w w' : World} {row : List Value} {Q : TypeId → Prop} {u : Value}
theorem ClsC.kt {x : Gr.Cls} (h : ClsC B w x row) (k : Kt Q w w') (h1 : Q 59) (h2 : Q 101) : ClsC B w' x row := by
  obtain ⟨sl, bl, e, h3, h4⟩ := h
  exact ⟨sl, bl, e, k.own h1 h3, h4.kt k h1 h2⟩
theorem ClsC.mono {x : Gr.Cls} (h : ClsC B w x row) (hb : B' ≤ B) : ClsC B' w x row := by
  obtain ⟨sl, bl, e, h3, h4⟩ := h
  exact ⟨sl, bl, e, World.ownsRow.mono h3 hb, h4.mono hb⟩
theorem clsL_one (x : Gr.Cls) {a a2 : Option Addr} {n c n2 c2 : Nat} : ∀ u ∈ clsL x (.slice a n c) (.slice a2 n2 c2), u.oneCell' = true := by
  intro u hu
  simp only [clsL, List.mem_cons, List.not_mem_nil, or_false] at hu
  rcases hu with rfl | rfl | rfl | rfl <;> rfl
abbrev ProgV (B : Nat) : List Gr.Cls → World → Value → Prop := RowsV (ClsC B) B 35 4
theorem ProgV.kt {xs : List Gr.Cls} (h : ProgV B xs w u) (k : Kt Q w w') (h1 : Q 59) (h2 : Q 101) (h3 : Q 35) : ProgV B xs w' u := RowsV.kt h k h3 (fun _ _ h => h.kt k h1 h2)
theorem ProgV.mono {xs : List Gr.Cls} (h : ProgV B xs w u) (hb : B' ≤ B) : ProgV B' xs w u := RowsV.mono h hb (fun _ _ h => h.mono hb)
theorem Tryz.info35 : (Tryz.prog.info? 35).map (fun i => (i.zero, i.size, i.bytes)) = some (some (.agg #[.string noS, .slice none 0 0, .int .i64 0, .slice none 0 0]), 4, 72) := by kernel_rfl
/-- An atom's row. -/
def atmL (x : Gr.Atm) (sl : Value) : List Value := [.string ⟨x.pred.toArray⟩, sl, .int .i64 (x.off : Int)]
def AtmC (B : Nat) (w : World) (x : Gr.Atm) (row : List Value) : Prop := ∃ sl, row = atmL x sl ∧ w.ownsRow B 59 4 sl x.args.length (flatX x.args)
theorem AtmC.kt {x : Gr.Atm} (h : AtmC B w x row) (k : Kt Q w w') (h1 : Q 59) : AtmC B w' x row := by
  obtain ⟨sl, e, h3⟩ := h
  exact ⟨sl, e, k.own h1 h3⟩
theorem AtmC.mono {x : Gr.Atm} (h : AtmC B w x row) (hb : B' ≤ B) : AtmC B' w x row := by
  obtain ⟨sl, e, h3⟩ := h
  exact ⟨sl, e, World.ownsRow.mono h3 hb⟩
theorem atmL_one (x : Gr.Atm) {a : Option Addr} {n c : Nat} : ∀ u ∈ atmL x (.slice a n c), u.oneCell' = true := by
  intro u hu
  simp only [atmL, List.mem_cons, List.not_mem_nil, or_false] at hu
  rcases hu with rfl | rfl | rfl <;> rfl
abbrev AtmsV (B : Nat) : List Gr.Atm → World → Value → Prop := RowsV (AtmC B) B 32 3
theorem AtmsV.kt {xs : List Gr.Atm} (h : AtmsV B xs w u) (k : Kt Q w w') (h1 : Q 59) (h2 : Q 32) : AtmsV B xs w' u := RowsV.kt h k h2 (fun _ _ h => h.kt k h1)
theorem AtmsV.mono {xs : List Gr.Atm} (h : AtmsV B xs w u) (hb : B' ≤ B) : AtmsV B' xs w u := RowsV.mono h hb (fun _ _ h => h.mono hb)
theorem Tryz.info32b : (Tryz.prog.info? 32).map (fun i => (i.zero, i.size, i.bytes)) = some (some (.agg #[.string noS, .slice none 0 0, .int .i64 0]), 3, 48) := by kernel_rfl
end
/-- The cell that a function handed to guarded captures. -/
theorem row1c {w : World} {B : Nat} {T : TypeId} {a : Value} (h : w.heap[B]? = some (.cells #[a] T)) : w.cell? ⟨B, 0, none⟩ = some a ∧ w.frozen? ⟨B, 0, none⟩ = false := by
  constructor <;> simp only [World.cell?, World.frozen?, h] <;> rfl
theorem one_setc {w : World} {B : Nat} {T : TypeId} {a b : Value} (h : w.heap[B]? = some (.cells #[a] T)) : (w.setCell ⟨B, 0, none⟩ b).heap[B]? = some (.cells #[b] T) := by
  simp [World.setCell, Array.getElem?_modify, h]
/-- What a function handed to guarded ends with. -/
def CloIs {α : Type} (X C : Nat) (w : World) (Good : α → World → Prop) (res : Except Gr.Flt α) (e : Ending) (w' : World) : Prop :=
  Oth (fun k => k = X ∨ k = C) w w' ∧ match res with
  | .error F => e = gvE F
  | .ok x => e = .returned (.tuple #[]) ∧ Good x w'
/-- A captured variable that holds a value. -/
def VarV {α : Type} (C : Nat) (T : TypeId) (V : α → World → Value → Prop) (x : α) (w : World) : Prop := ∃ u, w.heap[C]? = some (.cells #[u] T) ∧ V x w u
end Go.Proofs.YtncdjkdpoinfaaaGreatDoor
