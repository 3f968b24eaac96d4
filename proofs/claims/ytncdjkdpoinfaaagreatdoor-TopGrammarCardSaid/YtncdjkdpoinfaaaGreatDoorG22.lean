/-
  Texts of this seat, one behind the other: W47, W48. Conditions: those that each of them states.
-/
import Derived.Test.YtncdjkdpoinfaaaGreatDoorG21
/-
  The walks of edicttop.flat and flatFacts, at what parse handed back. Conditions: those that each theorem states.
-/
namespace Go.Proofs.YtncdjkdpoinfaaaGreatDoor
open Go.RowKit Go.Shelf Pl

theorem rowsM {α : Type} {R : α → List Value → Prop} {D n g cap m : Nat} {T : TypeId} {xs : List α} {rows : List (List Value)} {w : World} (hA : A2 R xs rows) (hm : ∀ x r, R x r → r.length = m) (hO : w.ownsRow D T m (.slice (some ⟨g, 0, none⟩) n cap) xs.length rows.flatten) {i : Nat} (hi : i < xs.length) (h0 : 0 < m) :
    ∃ row, R xs[i] row ∧ ∀ j, j < m → w.cell? ⟨g, i * m + j, none⟩ = row[j]? := by
  obtain ⟨hr, hx⟩ := hA.at i hi
  have hn : n = xs.length := by
    rcases Joins.ownsRow_forms hO with ⟨h5, h6⟩ | ⟨g', cap', h5⟩
    · cases h5
    · injection h5
  subst hn
  refine ⟨rows[i], hx, fun j hj => ?_⟩
  have hlt : i * m + j < xs.length * m := by
    have := Nat.mul_le_mul_right m (show i + 1 ≤ xs.length from hi)
    rw [Nat.add_mul] at this
    omega
  rw [World.ownsRow.cellAt hO (i * m + j) hlt, flatten_at hA hm i hr j hj]
theorem flatMap_few {α β : Type} (g : α → List β) (hg : ∀ x, 0 < (g x).length) (xs : List α) : xs.length ≤ (xs.flatMap g).length := by
  induction xs with
  | nil => simp
  | cons y ys ih => have := hg y; simp only [List.flatMap_cons, List.length_append, List.length_cons]; omega
theorem lits_few (ls : List Gr.Lit) : ls.length ≤ (Gr.flatBody ls).length := by
  have h : ∀ ys : List Gr.Lit, ys.length ≤ (Gr.flatLits ys).length := by
    intro ys
    induction ys with
    | nil => simp
    | cons y ys ih => simp only [Gr.flatLits, List.length_append, List.length_cons]; omega
  cases ls with
  | nil => simp
  | cons x xs =>
    have := h xs
    have := Gr.flatLit_pos x
    simp only [Gr.flatBody, List.length_append, List.length_cons]
    omega

/-- A list of the call's own stands while another grows. -/
theorem own_other {B B' n n' g g' c c' : Nat} {es fs : List Gr.Ex} {w w5 : World} {o : Obj} (h : OutV B es w (.slice (some ⟨g, 0, none⟩) n c)) (h' : OutV B' fs w (.slice (some ⟨g', 0, none⟩) n' c')) (hg : (w.alloc o).grownBy w5 (Value.slice (some ⟨g', 0, none⟩) n' c').ownBlock) (hne : g ≠ g') :
    OutV B es w5 (.slice (some ⟨g, 0, none⟩) n c) :=
  World.ownsRow.kept (World.ownsRow.alloc h o) hg (.inr (fun e => hne (by simpa [Value.ownBlock] using e)))

set_option maxRecDepth 100000 in
set_option maxHeartbeats 6400000 in
theorem flatFacts_any (xs : List Gr.Atm) (u : Value) (D : Nat) (w : World) (hok : ∀ x ∈ xs, Gr.AtmOk x) (hv : AtmsV D xs w u) (hlen : (Gr.flatFacts xs).length ≤ 70000) :
    Calls Tryz.prog 31 #[u] w (OutIs w (Gr.flatFacts xs)) := by
  obtain ⟨i62, bi, b0, b1, b2⟩ := info_parts Tryz.info62
  rw [Gr.flatFacts_flat, List.length_append] at hlen
  have HOK := Lib.hid hok
  have HLEN := Lib.hid (show (xs.flatMap fun x => Gr.flatAtom x ++ [Gr.mkE 8]).length ≤ 70000 by omega)
  have hnn : xs.length ≤ 70000 := Nat.le_trans (flatMap_few (fun x => Gr.flatAtom x ++ [Gr.mkE 8]) (fun x => by simp) xs) HLEN.out
  obtain ⟨n, hn0⟩ : ∃ n, n = xs.length := ⟨_, rfl⟩
  obtain ⟨sa, sc, rfl⟩ := hv.form
  rw [← hn0] at hv hnn ⊢
  have HN := Lib.hid hn0
  clear hn0 hok hlen
  have HV0 := Lib.hid hv
  have HO0 : Hid (OutV w.heap.size ((xs.take 0).flatMap fun x => Gr.flatAtom x ++ [Gr.mkE 8]) w (.slice none 0 0)) := Lib.hid OutV.nil
  have HB0 : Hid (Below w.heap.size w w) := Lib.hid (Below.refl _ _)
  clear hv
  go_enter Tryz.func31, Tryz.ntmps31
  go_wp2
  go_loopw [8, 3] (fun k d wr => ∃ i : Nat, k = .int .i64 (i : Int) ∧ i ≤ n ∧ Hid (OutV w.heap.size ((xs.take i).flatMap fun x => Gr.flatAtom x ++ [Gr.mkE 8]) wr d) ∧ Hid (Below w.heap.size w wr) ∧ Hid (AtmsV D xs wr (.slice sa n sc))) (fun k _ _ => n - (intOf k).toNat)
  case atStart => exact ⟨0, rfl, Nat.zero_le _, HO0, HB0, HV0⟩
  case round =>
    obtain ⟨i, rfl, hi, HO, HB, HV⟩ := hrel
    clear HO0 HB0 HV0
    have hel3 := Nat.le_trans (Gr.flatMap_take_le (fun x => Gr.flatAtom x ++ [Gr.mkE 8]) xs i) HLEN.out
    obtain ⟨es, hes⟩ : ∃ es, es = (xs.take i).flatMap fun x => Gr.flatAtom x ++ [Gr.mkE 8] := ⟨_, rfl⟩
    rw [← hes] at HO hel3
    have HES := Lib.hid hes
    clear hes
    obtain ⟨da, dc, rfl⟩ := HO.out.form
    by_cases h1 : i < n
    · have iI : (i : Int) < (n : Int) := by omega
      have i0 : (0 : Int) ≤ (i : Int) := by omega
      have hwi : IntKind.i64.wrap ((i : Int) + 1) = (i : Int) + 1 := by rw [IntKind.wrap_i64]; omega
      have HI := Lib.hid (show i < xs.length by have := HN.out; omega)
      obtain ⟨rows, hA, hOw⟩ := HV.out
      obtain ⟨g, rfl⟩ : ∃ g, sa = some ⟨g, 0, none⟩ := by
        obtain ⟨g, cap, h5⟩ := Joins.ownsRow_form hOw (by have := HI.out; omega)
        injection h5 with h6 _ _
        exact ⟨g, h6⟩
      obtain ⟨row, ⟨sl, hrow, hoa⟩, hcell⟩ := rowsM (m := 3) hA (fun x r h => by obtain ⟨sl, e, _⟩ := h; rw [e]; rfl) hOw HI.out (by omega)
      obtain ⟨x, hx⟩ : ∃ x, x = xs[i]'HI.out := ⟨_, rfl⟩
      rw [← hx] at hrow hoa
      have HAO := Lib.hid (show Gr.AtmOk x by rw [hx]; exact HOK.out _ (List.getElem_mem _))
      have hal : (Gr.flatAtom x).length ≤ 70000 := by
        have := Nat.le_trans (Gr.flatMap_mem_le (fun x => Gr.flatAtom x ++ [Gr.mkE 8]) (show x ∈ xs by rw [hx]; exact List.getElem_mem _)) HLEN.out
        simp only [List.length_append] at this
        omega
      have hgl : x.args.length ≤ 70000 := Nat.le_trans (args_len x) hal
      have HNX : Hid ((xs.take (i + 1)).flatMap (fun x => Gr.flatAtom x ++ [Gr.mkE 8]) = es ++ Gr.flatAtom x ++ [Gr.mkE 8]) := Lib.hid (by rw [Gr.take_snoc HI.out, Gr.flatMap_snoc, ← hx, HES.out, List.append_assoc])
      obtain ⟨ea, ec, rfl⟩ : ∃ ea ec, sl = .slice ea x.args.length ec := by
        rcases Joins.ownsRow_forms hoa with ⟨h5, h6⟩ | ⟨g, cap, h5⟩
        · exact ⟨none, 0, by rw [h5]; rw [h6]⟩
        · exact ⟨_, cap, h5⟩
      obtain ⟨ln, hln⟩ : ∃ ln, ln = x.args.length := ⟨_, rfl⟩
      rw [← hln] at hrow
      have HLN := Lib.hid hln
      have HOA := Lib.hid hoa
      rw [hrow] at hcell
      have m0 : wr.cell? ⟨g, i * 3, none⟩ = some (.string ⟨x.pred.toArray⟩) := hcell 0 (by omega)
      have m1 : wr.cell? ⟨g, i * 3 + 1, none⟩ = some (.slice ea ln ec) := hcell 1 (by omega)
      have m2 : wr.cell? ⟨g, i * 3 + 2, none⟩ = some (.int .i64 (x.off : Int)) := hcell 2 (by omega)
      clear hx hA hOw hoa hcell hrow hln
      go_upto_region 5 with fail
      obtain ⟨w6, hw6⟩ : ∃ w6, w6 = wr.alloc (.cells #[.string ⟨x.pred.toArray⟩, .slice ea ln ec, .int .i64 (x.off : Int)] 32) := ⟨_, rfl⟩
      rw [← hw6]
      have q6 : w6.heap[wr.heap.size]? = some (.cells #[.string ⟨x.pred.toArray⟩, .slice ea ln ec, .int .i64 (x.off : Int)] 32) := by rw [hw6]; exact heap_alloc_new _ _
      have k6 : Kt (fun _ => True) wr w6 := by rw [hw6]; exact Kt.alloc _ _
      have HO6 := Lib.hid (HO.out.kt k6 trivial)
      have HV6 := Lib.hid (AtmsV.kt HV.out k6 trivial trivial)
      have HA6 := Lib.hid (k6.own trivial HOA.out)
      have HB6 : Hid (Below w.heap.size w w6) := Lib.hid (by rw [hw6]; exact HB.out.alloc HB.out.size _)
      obtain ⟨b, hb0⟩ : ∃ b, b = wr.heap.size := ⟨_, rfl⟩
      rw [← hb0] at q6 ⊢
      obtain ⟨s0, s1, s2, g0, g1, g2⟩ := row32 q6
      clear hw6 k6 hb0 q6 m0 m1 m2
      go_wp2_with fail
      refine (flatAtom_any x (.slice ea ln ec) D _ HAO.out (by rw [HLN.out]; exact HA6.out) hgl).mono ?_
      rintro e wa ⟨ua, rfl, hoa, hba⟩
      have hapos : 0 < (Gr.flatAtom x).length := by simp [Gr.flatAtom]
      obtain ⟨ag, ac, rfl⟩ := Joins.ownsRow_form hoa hapos
      obtain ⟨fs, hfs⟩ : ∃ fs, fs = Gr.flatAtom x := ⟨_, rfl⟩
      rw [← hfs] at hoa hal hapos ⊢
      have HFS := Lib.hid hfs
      have ka : Kt (fun _ => True) w6 wa := Kt.below hba
      have HOa := Lib.hid (HO6.out.kt ka trivial)
      have HVa := Lib.hid (AtmsV.kt HV6.out ka trivial trivial)
      have HBa := Lib.hid (HB6.out.trans (hba.mono HB6.out.size))
      have HSa := Lib.hid hoa
      clear hba ka hfs hoa s0 s1 s2 g0 g1 g2
      go_wp2_with (at_builtin; refine wpList_append_own _ rfl _ _ 36 rfl w.heap.size 62 i62 (.agg #[.int .i64 0, .string noS, .int .i64 0, .int .i64 0, .int .i64 0, .int .i64 0]) 6 56 Tryz.underlying36 bi b0 b1 b2 rfl (by decide) (.slice da es.length dc) es.length (List.flatMap exV es) rfl HOa.out ⟨ag, 0, none⟩ fs.length ac (List.flatMap exV fs) rfl (ex_len fs) (out_cells HSa.out) (ex_one _) (by unfold maxLen; omega) (by omega) (by have := HBa.out.size; omega) ?_; intro v5 w5 hown5 hgrow5 hnl5; have HO5 := Lib.hid (OutV.more (fs := fs) hown5); have HB5 := Lib.hid (grown_below HBa.out hgrow5 HOa.out (Nat.le_refl _)); have k5 : Kt (fun t => t ≠ 62) wa w5 := Kt.grown hgrow5 HOa.out (by simp); obtain ⟨g5, c5, rfl⟩ := Joins.ownsRow_form hown5 (by omega); have HV5 := Lib.hid (AtmsV.kt HVa.out k5 (by decide) (by decide)); clear k5; clear hown5 hgrow5 hnl5)
      refine (mark_any 8 _).mono ?_
      rintro e w7 ⟨rfl, hb7⟩
      simp only [markV]
      have k7 : Kt (fun _ => True) w5 w7 := Kt.below hb7
      obtain ⟨gs, hgs⟩ : ∃ gs, gs = es ++ fs := ⟨_, rfl⟩
      have HGL : Hid (gs.length = es.length + fs.length) := Lib.hid (by rw [hgs]; simp)
      have HGS := Lib.hid hgs
      have HO7 := Lib.hid (HO5.out.kt k7 trivial)
      rw [← hgs] at HO7
      rw [← HGL.out] at HO7 ⊢
      have hgl2 : gs.length ≤ 140000 := by have := HGL.out; omega
      have HV7 := Lib.hid (AtmsV.kt HV5.out k7 trivial trivial)
      have HB7 := Lib.hid (HB5.out.trans (hb7.mono HB5.out.size))
      clear hb7 k7 hgs
      go_wp2_with (at_builtin; refine wpList_append_own _ rfl _ _ 36 rfl w.heap.size 62 i62 (.agg #[.int .i64 0, .string noS, .int .i64 0, .int .i64 0, .int .i64 0, .int .i64 0]) 6 56 Tryz.underlying36 bi b0 b1 b2 rfl (by decide) (.slice (some ⟨g5, 0, none⟩) gs.length c5) gs.length (List.flatMap exV gs) rfl (World.ownsRow.alloc HO7.out _) ⟨w7.heap.size, 0, none⟩ 1 1 (exV (Gr.mkE 8)) rfl rfl (World.news_of_block (cs := (exV (Gr.mkE 8)).toArray) (t := 62) (fr := (0, 0)) (heap_alloc_new w7 _)) (evV_one _) (by unfold maxLen; omega) (by omega) (by have := HB7.out.size; simp; omega) ?_; intro v8 w8 hown8 hgrow8 hnl8; have HO8 := Lib.hid (OutV.snoc (e := Gr.mkE 8) hown8); have HB8 := Lib.hid (grown_below (HB7.out.alloc HB7.out.size _) hgrow8 (World.ownsRow.alloc HO7.out _) (Nat.le_refl _)); have k8 : Kt (fun t => t ≠ 62) w7 w8 := (Kt.alloc w7 _).trans (Kt.grown hgrow8 (World.ownsRow.alloc HO7.out _) (by simp)); obtain ⟨g8, c8, rfl⟩ := Joins.ownsRow_form hown8 (by omega); have HV8 := Lib.hid (AtmsV.kt HV7.out k8 (by decide) (by decide)); clear k8; clear hown8 hgrow8 hnl8)
      go_roundw
      case rel => exact ⟨i + 1, by go_num, by omega, Lib.hid (by rw [HNX.out, ← HFS.out, ← HGS.out]; exact HO8.out), HB8, HV8⟩
      case measure => simp only [intOf]; omega
    · have hie : i = n := by omega
      subst hie
      have hnl : ¬ (i : Int) < (i : Int) := by omega
      have hnd : decide ((i : Int) < (i : Int)) = false := decide_eq_false hnl
      have HE : Hid (Gr.flatFacts xs = es ++ [Gr.mkE 0]) := Lib.hid (by rw [Gr.flatFacts_flat, HES.out, List.take_of_length_le (by rw [HN.out]; exact Nat.le_refl _)])
      go_wp2_with fail
      refine (mark_any 0 _).mono ?_
      rintro e w7 ⟨rfl, hb7⟩
      simp only [markV]
      have HO7 := Lib.hid (HO.out.kt (Kt.below (T := fun _ => True) hb7) trivial)
      have HB7 := Lib.hid (HB.out.trans (hb7.mono HB.out.size))
      clear hb7
      go_wp2_with (at_builtin; refine wpList_append_own _ rfl _ _ 36 rfl w.heap.size 62 i62 (.agg #[.int .i64 0, .string noS, .int .i64 0, .int .i64 0, .int .i64 0, .int .i64 0]) 6 56 Tryz.underlying36 bi b0 b1 b2 rfl (by decide) (.slice da es.length dc) es.length (List.flatMap exV es) rfl (World.ownsRow.alloc HO7.out _) ⟨w7.heap.size, 0, none⟩ 1 1 (exV (Gr.mkE 0)) rfl rfl (World.news_of_block (cs := (exV (Gr.mkE 0)).toArray) (t := 62) (fr := (0, 0)) (heap_alloc_new w7 _)) (evV_one _) (by unfold maxLen; omega) (by omega) (by have := HB7.out.size; simp; omega) ?_; intro v8 w8 hown8 hgrow8 hnl8; have HO8 := Lib.hid (OutV.snoc (e := Gr.mkE 0) hown8); have HB8 := Lib.hid (grown_below (HB7.out.alloc HB7.out.size _) hgrow8 (World.ownsRow.alloc HO7.out _) (Nat.le_refl _)); have k8 : Kt (fun t => t ≠ 62) w7 w8 := (Kt.alloc w7 _).trans (Kt.grown hgrow8 (World.ownsRow.alloc HO7.out _) (by simp)); obtain ⟨g8, c8, rfl⟩ := Joins.ownsRow_form hown8 (by omega); clear hown8 hgrow8 hnl8)
      go_ret
      refine ⟨_, rfl, ?_, HB8.out⟩
      rw [HE.out]; exact HO8.out

set_option maxRecDepth 100000 in
set_option maxHeartbeats 6400000 in
theorem flat_any (xs : List Gr.Cls) (u : Value) (D : Nat) (w : World) (hok : ∀ x ∈ xs, Gr.ClsOk x) (hv : ProgV D xs w u) (hlen : (Gr.flatProg xs).length ≤ 70000) :
    Calls Tryz.prog 30 #[.agg #[u]] w (BodyOut w (Gr.flatProg xs)) := by
  obtain ⟨i62, bi, b0, b1, b2⟩ := info_parts Tryz.info62
  rw [Gr.flatProg_flat, List.length_append] at hlen
  have HOK := Lib.hid hok
  have HLEN := Lib.hid (show (xs.flatMap Gr.flatCls).length ≤ 70000 by omega)
  have hnn : xs.length ≤ 70000 := Nat.le_trans (flatMap_few Gr.flatCls (fun x => by simp [Gr.flatCls]; omega) xs) HLEN.out
  obtain ⟨n, hn0⟩ : ∃ n, n = xs.length := ⟨_, rfl⟩
  obtain ⟨sa, sc, rfl⟩ := hv.form
  rw [← hn0] at hv hnn ⊢
  have HN := Lib.hid hn0
  clear hn0 hok hlen
  obtain ⟨w1, hw1⟩ : ∃ w1, w1 = w.alloc (.cells #[.slice sa n sc] 24) := ⟨_, rfl⟩
  have hx1 : w1.heap[w.heap.size]? = some (.cells #[.slice sa n sc] 24) := by rw [hw1]; exact heap_alloc_new _ _
  have HV0 : Hid (ProgV D xs w1 (.slice sa n sc)) := Lib.hid (by rw [hw1]; exact ProgV.kt hv (Kt.alloc (T := fun _ => True) w _) trivial trivial trivial)
  have HO0 : Hid (OutV w.heap.size ((xs.take 0).flatMap Gr.flatCls) w1 (.slice none 0 0)) := Lib.hid OutV.nil
  have HB0 : Hid (Below w.heap.size w w1) := Lib.hid (by rw [hw1]; exact up_alloc _ _)
  have HW1 := Lib.hid hw1
  obtain ⟨t0, t1⟩ := row1c hx1
  clear hv hw1 hx1
  go_enter Tryz.func30, Tryz.ntmps30
  go_upto_region 1 with fail
  rw [← HW1.out]
  go_wp2
  clear t0 t1
  go_loopw [12, 4] (fun k d wr => ∃ i : Nat, k = .int .i64 (i : Int) ∧ i ≤ n ∧ Hid (OutV w.heap.size ((xs.take i).flatMap Gr.flatCls) wr d) ∧ Hid (Below w.heap.size w wr) ∧ Hid (ProgV D xs wr (.slice sa n sc))) (fun k _ _ => n - (intOf k).toNat)
  case atStart => exact ⟨0, rfl, Nat.zero_le _, HO0, HB0, HV0⟩
  case round =>
    obtain ⟨i, rfl, hi, HO, HB, HV⟩ := hrel
    clear HO0 HB0 HV0
    have hel3 := Nat.le_trans (Gr.flatMap_take_le Gr.flatCls xs i) HLEN.out
    obtain ⟨es, hes⟩ : ∃ es, es = (xs.take i).flatMap Gr.flatCls := ⟨_, rfl⟩
    rw [← hes] at HO hel3
    have HES := Lib.hid hes
    clear hes
    obtain ⟨da, dc, rfl⟩ := HO.out.form
    by_cases h1 : i < n
    · have iI : (i : Int) < (n : Int) := by omega
      have i0 : (0 : Int) ≤ (i : Int) := by omega
      have hwi : IntKind.i64.wrap ((i : Int) + 1) = (i : Int) + 1 := by rw [IntKind.wrap_i64]; omega
      have HI := Lib.hid (show i < xs.length by have := HN.out; omega)
      obtain ⟨rows, hA, hOw⟩ := HV.out
      obtain ⟨g, rfl⟩ : ∃ g, sa = some ⟨g, 0, none⟩ := by
        obtain ⟨g, cap, h5⟩ := Joins.ownsRow_form hOw (by have := HI.out; omega)
        injection h5 with h6 _ _
        exact ⟨g, h6⟩
      obtain ⟨row, ⟨sl, bl, hrow, hoa, hlb⟩, hcell⟩ := rowsM (m := 4) hA (fun x r h => by obtain ⟨sl, bl, e, _⟩ := h; rw [e]; rfl) hOw HI.out (by omega)
      obtain ⟨x, hx⟩ : ∃ x, x = xs[i]'HI.out := ⟨_, rfl⟩
      rw [← hx] at hrow hoa hlb
      obtain ⟨hao, hbo⟩ : Gr.ClsOk x := by rw [hx]; exact HOK.out _ (List.getElem_mem _)
      have hcl : (Gr.flatCls x).length ≤ 70000 := Nat.le_trans (Gr.flatMap_mem_le Gr.flatCls (show x ∈ xs by rw [hx]; exact List.getElem_mem _)) HLEN.out
      have HAO := Lib.hid hao
      have HBO := Lib.hid hbo
      have hal : (Gr.flatAtom x.head).length ≤ 70000 := by simp only [Gr.flatCls, List.length_append] at hcl; omega
      have hgl : x.head.args.length ≤ 70000 := Nat.le_trans (args_len x.head) hal
      have HNX : Hid ((xs.take (i + 1)).flatMap Gr.flatCls = es ++ Gr.flatCls x) := Lib.hid (by rw [Gr.take_snoc HI.out, Gr.flatMap_snoc, ← hx, HES.out])
      obtain ⟨ba, bc, rfl⟩ := hlb.form
      obtain ⟨lb, hlbn⟩ : ∃ lb, lb = x.body.length := ⟨_, rfl⟩
      rw [← hlbn] at hrow hlb
      have HLB := Lib.hid hlbn
      have HBV := Lib.hid hlb
      obtain ⟨ea, ec, rfl⟩ : ∃ ea ec, sl = .slice ea x.head.args.length ec := by
        rcases Joins.ownsRow_forms hoa with ⟨h5, h6⟩ | ⟨g, cap, h5⟩
        · exact ⟨none, 0, by rw [h5]; rw [h6]⟩
        · exact ⟨_, cap, h5⟩
      obtain ⟨ln, hln⟩ : ∃ ln, ln = x.head.args.length := ⟨_, rfl⟩
      rw [← hln] at hrow
      have HLN := Lib.hid hln
      have HOA := Lib.hid hoa
      have HCL := Lib.hid hcl
      rw [hrow] at hcell
      have m0 : wr.cell? ⟨g, i * 4, none⟩ = some (.string ⟨x.head.pred.toArray⟩) := hcell 0 (by omega)
      have m1 : wr.cell? ⟨g, i * 4 + 1, none⟩ = some (.slice ea ln ec) := hcell 1 (by omega)
      have m2 : wr.cell? ⟨g, i * 4 + 2, none⟩ = some (.int .i64 (x.head.off : Int)) := hcell 2 (by omega)
      have m3 : wr.cell? ⟨g, i * 4 + 3, none⟩ = some (.slice ba lb bc) := hcell 3 (by omega)
      clear hx hA hOw hoa hcell hrow hln hlbn hlb hao hbo hcl
      go_upto_region 5 with fail
      obtain ⟨w6, hw6⟩ : ∃ w6, w6 = wr.alloc (.cells #[.string ⟨x.head.pred.toArray⟩, .slice ea ln ec, .int .i64 (x.head.off : Int), .slice ba lb bc] 35) := ⟨_, rfl⟩
      rw [← hw6]
      have q6 : w6.heap[wr.heap.size]? = some (.cells #[.string ⟨x.head.pred.toArray⟩, .slice ea ln ec, .int .i64 (x.head.off : Int), .slice ba lb bc] 35) := by rw [hw6]; exact heap_alloc_new _ _
      have k6 : Kt (fun _ => True) wr w6 := by rw [hw6]; exact Kt.alloc _ _
      have HO6 := Lib.hid (HO.out.kt k6 trivial)
      have HV6 := Lib.hid (ProgV.kt HV.out k6 trivial trivial trivial)
      have HL6 := Lib.hid (LitsV.kt HBV.out k6 trivial trivial)
      have HA6 := Lib.hid (k6.own trivial HOA.out)
      have HB6 : Hid (Below w.heap.size w w6) := Lib.hid (by rw [hw6]; exact HB.out.alloc HB.out.size _)
      obtain ⟨b, hb0⟩ : ∃ b, b = wr.heap.size := ⟨_, rfl⟩
      rw [← hb0] at q6 ⊢
      have HQ6 := Lib.hid q6
      obtain ⟨s0, s1, s2, s3, g0, g1, g2, g3⟩ := rowQ q6
      clear hw6 k6 hb0 q6 m0 m1 m2 m3
      go_wp2_with fail
      refine (flatAtom_any x.head (.slice ea ln ec) D _ HAO.out (by rw [HLN.out]; exact HA6.out) hgl).mono ?_
      rintro e wa ⟨ua, rfl, hoa, hba⟩
      have hapos : 0 < (Gr.flatAtom x.head).length := by simp [Gr.flatAtom]
      obtain ⟨ag, ac, rfl⟩ := Joins.ownsRow_form hoa hapos
      obtain ⟨fs, hfs⟩ : ∃ fs, fs = Gr.flatAtom x.head := ⟨_, rfl⟩
      rw [← hfs] at hoa hal hapos ⊢
      have HFS := Lib.hid hfs
      have ka : Kt (fun _ => True) w6 wa := Kt.below hba
      have HOa := Lib.hid (HO6.out.kt ka trivial)
      have HVa := Lib.hid (ProgV.kt HV6.out ka trivial trivial trivial)
      have HLa := Lib.hid (LitsV.kt HL6.out ka trivial trivial)
      have HQa := Lib.hid (ka _ _ _ HQ6.out trivial)
      have HBa := Lib.hid (HB6.out.trans (hba.mono HB6.out.size))
      have HSa := Lib.hid hoa
      clear hba ka hfs hoa s0 s1 s2 s3 g0 g1 g2 g3
      go_upto_region 6 with (at_builtin; refine wpList_append_own _ rfl _ _ 36 rfl w.heap.size 62 i62 (.agg #[.int .i64 0, .string noS, .int .i64 0, .int .i64 0, .int .i64 0, .int .i64 0]) 6 56 Tryz.underlying36 bi b0 b1 b2 rfl (by decide) (.slice da es.length dc) es.length (List.flatMap exV es) rfl HOa.out ⟨ag, 0, none⟩ fs.length ac (List.flatMap exV fs) rfl (ex_len fs) (out_cells HSa.out) (ex_one _) (by unfold maxLen; omega) (by omega) (by have := HBa.out.size; omega) ?_; intro v5 w5 hown5 hgrow5 hnl5; have HO5 := Lib.hid (OutV.more (fs := fs) hown5); have HB5 := Lib.hid (grown_below HBa.out hgrow5 HOa.out (Nat.le_refl _)); have k5 : Kt (fun t => t ≠ 62) wa w5 := Kt.grown hgrow5 HOa.out (by simp); obtain ⟨g5, c5, rfl⟩ := Joins.ownsRow_form hown5 (by omega); have HV5 := Lib.hid (ProgV.kt HVa.out k5 (by decide) (by decide) (by decide)); have HL5 := Lib.hid (LitsV.kt HLa.out k5 (by decide) (by decide)); have HQ5 := Lib.hid (k5 _ _ _ HQa.out (by decide)); clear k5; clear hown5 hgrow5 hnl5)
      obtain ⟨gs, hgs⟩ : ∃ gs, gs = es ++ fs := ⟨_, rfl⟩
      have HGL : Hid (gs.length = es.length + fs.length) := Lib.hid (by rw [hgs]; simp)
      have HGS := Lib.hid hgs
      rw [← hgs] at HO5
      rw [← HGL.out] at HO5 ⊢
      have hgl2 : gs.length ≤ 140000 := by have := HGL.out; omega
      clear hgs
      obtain ⟨s0, s1, s2, s3, g0', g1', g2', g3'⟩ := rowQ HQ5.out
      by_cases hbz : lb = 0
      · have e0 : decide ((lb : Int) > 0) = false := decide_eq_false (by omega)
        have e0' : decide (0 < lb) = false := decide_eq_false (by omega)
        have HNN : Hid ((xs.take (i + 1)).flatMap Gr.flatCls = gs ++ [Gr.mkE 8]) := Lib.hid (by
          have hb : x.body = [] := List.eq_nil_of_length_eq_zero (by rw [← HLB.out]; exact hbz)
          rw [HNX.out, HGS.out, HFS.out, Gr.flatCls, if_pos hb]; simp)
        clear hbz
        go_wp2_with fail
        refine (mark_any 8 _).mono ?_
        rintro e wz ⟨rfl, hbz⟩
        simp only [markV]
        have kz : Kt (fun _ => True) w5 wz := Kt.below hbz
        have HOz := Lib.hid (HO5.out.kt kz trivial)
        have HVz := Lib.hid (ProgV.kt HV5.out kz trivial trivial trivial)
        have HBz := Lib.hid (HB5.out.trans (hbz.mono HB5.out.size))
        clear hbz kz
        go_wp2_with (at_builtin; refine wpList_append_own _ rfl _ _ 36 rfl w.heap.size 62 i62 (.agg #[.int .i64 0, .string noS, .int .i64 0, .int .i64 0, .int .i64 0, .int .i64 0]) 6 56 Tryz.underlying36 bi b0 b1 b2 rfl (by decide) (.slice (some ⟨g5, 0, none⟩) gs.length c5) gs.length (List.flatMap exV gs) rfl (World.ownsRow.alloc HOz.out _) ⟨wz.heap.size, 0, none⟩ 1 1 (exV (Gr.mkE 8)) rfl rfl (World.news_of_block (cs := (exV (Gr.mkE 8)).toArray) (t := 62) (fr := (0, 0)) (heap_alloc_new wz _)) (evV_one _) (by unfold maxLen; omega) (by omega) (by have := HBz.out.size; simp; omega) ?_; intro v18 w18 hown18 hgrow18 hnl18; have HO18 := Lib.hid (OutV.snoc (e := Gr.mkE 8) hown18); have HB18 := Lib.hid (grown_below (HBz.out.alloc HBz.out.size _) hgrow18 (World.ownsRow.alloc HOz.out _) (Nat.le_refl _)); have k18 : Kt (fun t => t ≠ 62) wz w18 := (Kt.alloc wz _).trans (Kt.grown hgrow18 (World.ownsRow.alloc HOz.out _) (by simp)); obtain ⟨g18, c18, rfl⟩ := Joins.ownsRow_form hown18 (by omega); have HV18 := Lib.hid (ProgV.kt HVz.out k18 (by decide) (by decide) (by decide)); clear k18; clear hown18 hgrow18 hnl18)
        go_roundw
        case rel => exact ⟨i + 1, by go_num, by omega, Lib.hid (by rw [HNN.out]; exact HO18.out), HB18, HV18⟩
        case measure => simp only [intOf]; omega
      · have e0 : decide ((lb : Int) > 0) = true := decide_eq_true (by omega)
        have e0' : decide (0 < lb) = true := decide_eq_true (by omega)
        have hbne : x.body ≠ [] := fun e => hbz (by rw [HLB.out, e]; rfl)
        have HNN : Hid ((xs.take (i + 1)).flatMap Gr.flatCls = gs ++ [Gr.mkE 9] ++ Gr.flatBody x.body ++ [Gr.mkE 8]) := Lib.hid (by
          rw [HNX.out, HGS.out, HFS.out, Gr.flatCls, if_neg hbne]; simp)
        have hbl : (Gr.flatBody x.body).length ≤ 70000 := by
          have := HCL.out
          rw [Gr.flatCls, if_neg hbne] at this
          simp only [List.length_append, List.length_cons] at this
          omega
        have hbl2 : x.body.length ≤ 70000 := Nat.le_trans (lits_few x.body) hbl
        have hbpos : 0 < (Gr.flatBody x.body).length := Nat.lt_of_lt_of_le (by have := HLB.out; omega) (lits_few x.body)
        clear hbz hbne
        go_wp2_with fail
        refine (flatBody_any x.body (.slice ba lb bc) D _ HBO.out HL5.out hbl hbl2).mono ?_
        rintro e w9 ⟨u9, rfl, ho9, hb9⟩
        obtain ⟨pg, pc, rfl⟩ := Joins.ownsRow_form ho9 hbpos
        obtain ⟨hs, hhs⟩ : ∃ hs, hs = Gr.flatBody x.body := ⟨_, rfl⟩
        rw [← hhs] at ho9 hbl hbpos ⊢
        have HHS := Lib.hid hhs
        have k9 : Kt (fun _ => True) w5 w9 := Kt.below hb9
        have HO9 := Lib.hid (HO5.out.kt k9 trivial)
        have HV9 := Lib.hid (ProgV.kt HV5.out k9 trivial trivial trivial)
        have HB9 := Lib.hid (HB5.out.trans (hb9.mono HB5.out.size))
        have HS9 := Lib.hid ho9
        have HP9 := Lib.hid (show pg ≠ g5 from fun e => by
          have h1 := (World.ownsRow.lt ho9 pg rfl).1
          have h2 := (World.ownsRow.lt HO5.out g5 rfl).2
          omega)
        clear hb9 k9 hhs ho9 s0 s1 s2 s3 g0' g1' g2' g3'
        go_wp2_with fail
        refine (mark_any 9 _).mono ?_
        rintro e w10 ⟨rfl, hb10⟩
        simp only [markV]
        have k10 : Kt (fun _ => True) w9 w10 := Kt.below hb10
        have HO10 := Lib.hid (HO9.out.kt k10 trivial)
        have HV10 := Lib.hid (ProgV.kt HV9.out k10 trivial trivial trivial)
        have HB10 := Lib.hid (HB9.out.trans (hb10.mono HB9.out.size))
        have HS10 := Lib.hid (HS9.out.kt k10 trivial)
        clear hb10 k10
        go_upto_region 11 with (at_builtin; refine wpList_append_own _ rfl _ _ 36 rfl w.heap.size 62 i62 (.agg #[.int .i64 0, .string noS, .int .i64 0, .int .i64 0, .int .i64 0, .int .i64 0]) 6 56 Tryz.underlying36 bi b0 b1 b2 rfl (by decide) (.slice (some ⟨g5, 0, none⟩) gs.length c5) gs.length (List.flatMap exV gs) rfl (World.ownsRow.alloc HO10.out _) ⟨w10.heap.size, 0, none⟩ 1 1 (exV (Gr.mkE 9)) rfl rfl (World.news_of_block (cs := (exV (Gr.mkE 9)).toArray) (t := 62) (fr := (0, 0)) (heap_alloc_new w10 _)) (evV_one _) (by unfold maxLen; omega) (by omega) (by have := HB10.out.size; simp; omega) ?_; intro v11 w11 hown11 hgrow11 hnl11; have HO11 := Lib.hid (OutV.snoc (e := Gr.mkE 9) hown11); have HB11 := Lib.hid (grown_below (HB10.out.alloc HB10.out.size _) hgrow11 (World.ownsRow.alloc HO10.out _) (Nat.le_refl _)); have k11 : Kt (fun t => t ≠ 62) w10 w11 := (Kt.alloc w10 _).trans (Kt.grown hgrow11 (World.ownsRow.alloc HO10.out _) (by simp)); obtain ⟨g11, c11, rfl⟩ := Joins.ownsRow_form hown11 (by omega); have HV11 := Lib.hid (ProgV.kt HV10.out k11 (by decide) (by decide) (by decide)); have HS11 := Lib.hid (own_other HS10.out HO10.out hgrow11 (fun e => HP9.out e)); clear k11; clear hown11 hgrow11 hnl11)
        obtain ⟨ks, hks⟩ : ∃ ks, ks = gs ++ [Gr.mkE 9] := ⟨_, rfl⟩
        have HKL : Hid (ks.length = gs.length + 1) := Lib.hid (by rw [hks]; simp)
        rw [← hks] at HO11 HNN
        rw [← HKL.out] at HO11 ⊢
        have hkl2 : ks.length ≤ 140001 := by have := HKL.out; omega
        clear hks
        go_upto_region 12 with (at_builtin; refine wpList_append_own _ rfl _ _ 36 rfl w.heap.size 62 i62 (.agg #[.int .i64 0, .string noS, .int .i64 0, .int .i64 0, .int .i64 0, .int .i64 0]) 6 56 Tryz.underlying36 bi b0 b1 b2 rfl (by decide) (.slice (some ⟨g11, 0, none⟩) ks.length c11) ks.length (List.flatMap exV ks) rfl HO11.out ⟨pg, 0, none⟩ hs.length pc (List.flatMap exV hs) rfl (ex_len hs) (out_cells HS11.out) (ex_one _) (by unfold maxLen; omega) (by omega) (by have := HB11.out.size; omega) ?_; intro v12 w12 hown12 hgrow12 hnl12; have HO12 := Lib.hid (OutV.more (fs := hs) hown12); have HB12 := Lib.hid (grown_below HB11.out hgrow12 HO11.out (Nat.le_refl _)); have k12 : Kt (fun t => t ≠ 62) w11 w12 := Kt.grown hgrow12 HO11.out (by simp); obtain ⟨g12, c12, rfl⟩ := Joins.ownsRow_form hown12 (by omega); have HV12 := Lib.hid (ProgV.kt HV11.out k12 (by decide) (by decide) (by decide)); clear k12; clear hown12 hgrow12 hnl12)
        obtain ⟨qs, hqs⟩ : ∃ qs, qs = ks ++ hs := ⟨_, rfl⟩
        have HQL : Hid (qs.length = ks.length + hs.length) := Lib.hid (by rw [hqs]; simp)
        rw [← HHS.out, ← hqs] at HNN
        rw [← hqs] at HO12
        rw [← HQL.out] at HO12 ⊢
        have hql2 : qs.length ≤ 220000 := by have := HQL.out; omega
        clear hqs
        go_wp2_with fail
        refine (mark_any 8 _).mono ?_
        rintro e wz ⟨rfl, hbz⟩
        simp only [markV]
        have kz : Kt (fun _ => True) w12 wz := Kt.below hbz
        have HOz := Lib.hid (HO12.out.kt kz trivial)
        have HVz := Lib.hid (ProgV.kt HV12.out kz trivial trivial trivial)
        have HBz := Lib.hid (HB12.out.trans (hbz.mono HB12.out.size))
        clear hbz kz
        go_wp2_with (at_builtin; refine wpList_append_own _ rfl _ _ 36 rfl w.heap.size 62 i62 (.agg #[.int .i64 0, .string noS, .int .i64 0, .int .i64 0, .int .i64 0, .int .i64 0]) 6 56 Tryz.underlying36 bi b0 b1 b2 rfl (by decide) (.slice (some ⟨g12, 0, none⟩) qs.length c12) qs.length (List.flatMap exV qs) rfl (World.ownsRow.alloc HOz.out _) ⟨wz.heap.size, 0, none⟩ 1 1 (exV (Gr.mkE 8)) rfl rfl (World.news_of_block (cs := (exV (Gr.mkE 8)).toArray) (t := 62) (fr := (0, 0)) (heap_alloc_new wz _)) (evV_one _) (by unfold maxLen; omega) (by omega) (by have := HBz.out.size; simp; omega) ?_; intro v18 w18 hown18 hgrow18 hnl18; have HO18 := Lib.hid (OutV.snoc (e := Gr.mkE 8) hown18); have HB18 := Lib.hid (grown_below (HBz.out.alloc HBz.out.size _) hgrow18 (World.ownsRow.alloc HOz.out _) (Nat.le_refl _)); have k18 : Kt (fun t => t ≠ 62) wz w18 := (Kt.alloc wz _).trans (Kt.grown hgrow18 (World.ownsRow.alloc HOz.out _) (by simp)); obtain ⟨g18, c18, rfl⟩ := Joins.ownsRow_form hown18 (by omega); have HV18 := Lib.hid (ProgV.kt HVz.out k18 (by decide) (by decide) (by decide)); clear k18; clear hown18 hgrow18 hnl18)
        go_roundw
        case rel => exact ⟨i + 1, by go_num, by omega, Lib.hid (by rw [HNN.out]; exact HO18.out), HB18, HV18⟩
        case measure => simp only [intOf]; omega
    · have hie : i = n := by omega
      subst hie
      have hnl : ¬ (i : Int) < (i : Int) := by omega
      have hnd : decide ((i : Int) < (i : Int)) = false := decide_eq_false hnl
      have HE : Hid (Gr.flatProg xs = es ++ [Gr.mkE 0]) := Lib.hid (by rw [Gr.flatProg_flat, HES.out, List.take_of_length_le (by rw [HN.out]; exact Nat.le_refl _)])
      go_wp2_with fail
      refine (mark_any 0 _).mono ?_
      rintro e w7 ⟨rfl, hb7⟩
      simp only [markV]
      have HO7 := Lib.hid (HO.out.kt (Kt.below (T := fun _ => True) hb7) trivial)
      have HB7 := Lib.hid (HB.out.trans (hb7.mono HB.out.size))
      clear hb7
      go_wp2_with (at_builtin; refine wpList_append_own _ rfl _ _ 36 rfl w.heap.size 62 i62 (.agg #[.int .i64 0, .string noS, .int .i64 0, .int .i64 0, .int .i64 0, .int .i64 0]) 6 56 Tryz.underlying36 bi b0 b1 b2 rfl (by decide) (.slice da es.length dc) es.length (List.flatMap exV es) rfl (World.ownsRow.alloc HO7.out _) ⟨w7.heap.size, 0, none⟩ 1 1 (exV (Gr.mkE 0)) rfl rfl (World.news_of_block (cs := (exV (Gr.mkE 0)).toArray) (t := 62) (fr := (0, 0)) (heap_alloc_new w7 _)) (evV_one _) (by unfold maxLen; omega) (by omega) (by have := HB7.out.size; simp; omega) ?_; intro v8 w8 hown8 hgrow8 hnl8; have HO8 := Lib.hid (OutV.snoc (e := Gr.mkE 0) hown8); have HB8 := Lib.hid (grown_below (HB7.out.alloc HB7.out.size _) hgrow8 (World.ownsRow.alloc HO7.out _) (Nat.le_refl _)); have k8 : Kt (fun t => t ≠ 62) w7 w8 := (Kt.alloc w7 _).trans (Kt.grown hgrow8 (World.ownsRow.alloc HO7.out _) (by simp)); obtain ⟨g8, c8, rfl⟩ := Joins.ownsRow_form hown8 (by omega); clear hown8 hgrow8 hnl8)
      go_ret2
      refine ⟨_, rfl, ?_, HB8.out⟩
      rw [HE.out]; exact HO8.out
end Go.Proofs.YtncdjkdpoinfaaaGreatDoor
/-
  The walk of edicttop.readsAs, where the tokens are those. Conditions: those that the theorem states.
-/
namespace Go.Proofs.YtncdjkdpoinfaaaGreatDoor
open Go.RowKit Go.Shelf Pl

theorem flatE_at (xs : List Gr.Ev) : ∀ (i : Nat) (hi : i < xs.length) (j : Nat), j < 6 → (xs.flatMap evV)[i * 6 + j]? = (evV xs[i])[j]? := by
  induction xs with
  | nil => intro i hi; simp at hi
  | cons x xs ih =>
    intro i hi j hj
    simp only [List.flatMap_cons]
    cases i with
    | zero =>
      rw [Nat.zero_mul, Nat.zero_add, List.getElem?_append_left (by simp [evV]; omega)]
      rfl
    | succ i =>
      rw [List.getElem?_append_right (by simp [evV]; omega), show (i + 1) * 6 + j - (evV x).length = i * 6 + j by simp [evV]; omega]
      exact ih i (by simpa using hi) j hj
theorem ev_cells {w : World} {base cap g n : Nat} {xs : List Gr.Ev} (h : w.ownsRow base 62 6 (.slice (some ⟨g, 0, none⟩) n cap) xs.length (xs.flatMap evV)) {i : Nat} (hi : i < xs.length) :
    w.cell? ⟨g, i * 6, none⟩ = some (.int .i64 (xs[i].kind : Int)) ∧ w.cell? ⟨g, i * 6 + 1, none⟩ = some (.string ⟨xs[i].text.toArray⟩) ∧ w.cell? ⟨g, i * 6 + 2, none⟩ = some (.int .i64 xs[i].int) ∧
    w.cell? ⟨g, i * 6 + 3, none⟩ = some (.int .i64 (xs[i].op : Int)) ∧ w.cell? ⟨g, i * 6 + 4, none⟩ = some (.int .i64 (xs[i].off : Int)) ∧ w.cell? ⟨g, i * 6 + 5, none⟩ = some (.int .i64 xs[i].fin) := by
  have hn : n = xs.length := by
    rcases Joins.ownsRow_forms h with ⟨h5, h6⟩ | ⟨g', cap', h5⟩
    · cases h5
    · injection h5
  subst hn
  have hc : ∀ j (hj : j < 6), w.cell? ⟨g, i * 6 + j, none⟩ = (evV xs[i])[j]? := fun j hj => by
    rw [World.ownsRow.cellAt h (i * 6 + j) (by omega), flatE_at xs i hi j hj]
  exact ⟨hc 0 (by omega), hc 1 (by omega), hc 2 (by omega), hc 3 (by omega), hc 4 (by omega), hc 5 (by omega)⟩

set_option maxRecDepth 100000 in
set_option maxHeartbeats 6400000 in
theorem readsAs_any (ts : List Tk) (xs : List Gr.Ev) (u v : Value) (B1 B2 : Nat) (w : World) (hu : w.ownsRow B1 62 6 u ts.length (flatT ts)) (hv : w.ownsRow B2 62 6 v xs.length (xs.flatMap evV)) (hR : Gr.RdV ts xs) (hn : ts.length ≤ 70000) :
    Calls Tryz.prog 15 #[u, v] w fun e w' => e = .returned (.bool true) ∧ Below w.heap.size w w' := by
  have hlen := hR.1
  obtain ⟨n, hn0⟩ : ∃ n, n = ts.length := ⟨_, rfl⟩
  obtain ⟨ua, uc, rfl⟩ : ∃ ua uc, u = .slice ua n uc := by
    rcases Joins.ownsRow_forms hu with ⟨h5, h6⟩ | ⟨g, cap, h5⟩
    · exact ⟨none, 0, by rw [h5, hn0, h6]⟩
    · exact ⟨_, cap, by rw [h5, hn0]⟩
  obtain ⟨va, vc, rfl⟩ : ∃ va vc, v = .slice va n vc := by
    rcases Joins.ownsRow_forms hv with ⟨h5, h6⟩ | ⟨g, cap, h5⟩
    · exact ⟨none, 0, by rw [h5, hn0, hlen, h6]⟩
    · exact ⟨_, cap, by rw [h5, hn0, hlen]⟩
  have HU := Lib.hid hu
  have HV := Lib.hid hv
  have HR := Lib.hid hR
  have HN := Lib.hid (show n = ts.length ∧ n = xs.length from ⟨hn0, hn0.trans hlen⟩)
  rw [← hn0] at hn
  have HB0 : Hid (Below w.heap.size w w) := Lib.hid (Below.refl _ _)
  clear hn0 hlen hu hv hR
  go_enter Tryz.func15, Tryz.ntmps15
  go_wp2
  go_loopw [15] (fun k wr => ∃ i : Nat, k = .int .i64 (i : Int) ∧ i ≤ n ∧ Hid (Below w.heap.size w wr)) (fun k _ => n - (intOf k).toNat)
  case atStart => exact ⟨0, rfl, Nat.zero_le _, HB0⟩
  case round =>
    obtain ⟨i, rfl, hi, HB⟩ := hrel
    by_cases h1 : i < n
    · have iI : (i : Int) < (n : Int) := by omega
      have i0 : (0 : Int) ≤ (i : Int) := by omega
      have hwi : IntKind.i64.wrap ((i : Int) + 1) = (i : Int) + 1 := by rw [IntKind.wrap_i64]; omega
      have h1t : i < ts.length := by have := HN.out.1; omega
      have h1x : i < xs.length := by have := HN.out.2; omega
      have kb : Kt (fun _ => True) w wr := Kt.below HB.out
      have hu := kb.own trivial HU.out
      have hv := kb.own trivial HV.out
      obtain ⟨g, rfl⟩ : ∃ g, ua = some ⟨g, 0, none⟩ := by
        obtain ⟨g, cap, h5⟩ := Joins.ownsRow_form hu (by omega)
        injection h5 with h6 _ _
        exact ⟨g, h6⟩
      obtain ⟨g2, rfl⟩ : ∃ g, va = some ⟨g, 0, none⟩ := by
        obtain ⟨g, cap, h5⟩ := Joins.ownsRow_form hv (by omega)
        injection h5 with h6 _ _
        exact ⟨g, h6⟩
      rw [HN.out.1] at hu
      have hc := tok_cells hu h1t
      have hd := ev_cells hv h1x
      have hm := HR.out.2 i h1t h1x
      obtain ⟨t, ht⟩ : ∃ t, t = ts[i] := ⟨_, rfl⟩
      obtain ⟨x, hx⟩ : ∃ x, x = xs[i] := ⟨_, rfl⟩
      rw [← ht] at hc hm
      rw [← hx] at hd hm
      rw [← hm.kind, ← hm.text, ← hm.int, ← hm.op] at hd
      obtain ⟨c0, c1, c2, c3, c4, c5⟩ := hc
      obtain ⟨d0, d1, d2, d3, d4, d5⟩ := hd
      have HOF := Lib.hid hm.off
      have hg1 : g < wr.heap.size := World.block_lt_of_cell? _ _ c0
      have hg2 : g2 < wr.heap.size := World.block_lt_of_cell? _ _ d0
      have hg3 : ¬ g = wr.heap.size := by omega
      have hg4 : ¬ g2 = wr.heap.size := by omega
      have hg5 : ¬ g = wr.heap.size + 1 := by omega
      have hg6 : ¬ g2 = wr.heap.size + 1 := by omega
      clear hm ht hx hu hv kb h1t h1x
      go_upto_region 6 with fail
      go_region
      all_goals clear c0 c1 c2 c3 c4 c5 d0 d1 d2 d3 d4 d5
      · obtain ⟨w6, hw6⟩ : ∃ w6, w6 = ((wr.alloc (.cells #[.int .i64 (t.kind : Int), .string ⟨t.text.toArray⟩, .int .i64 t.int, .int .i64 (t.op : Int), .int .i64 (t.off : Int), .int .i64 (t.fin : Int)] 62)).alloc (.cells #[.int .i64 (t.kind : Int), .string ⟨t.text.toArray⟩, .int .i64 t.int, .int .i64 (t.op : Int), .int .i64 (x.off : Int), .int .i64 x.fin] 62)).drew := ⟨_, rfl⟩
        rw [← hw6]
        have q1 : w6.heap[wr.heap.size]? = some (.cells #[.int .i64 (t.kind : Int), .string ⟨t.text.toArray⟩, .int .i64 t.int, .int .i64 (t.op : Int), .int .i64 (t.off : Int), .int .i64 (t.fin : Int)] 62) := by rw [hw6, drew_heap]; exact (two_heap _ _ rfl).1
        have q2 : w6.heap[wr.heap.size + 1]? = some (.cells #[.int .i64 (t.kind : Int), .string ⟨t.text.toArray⟩, .int .i64 t.int, .int .i64 (t.op : Int), .int .i64 (x.off : Int), .int .i64 x.fin] 62) := by rw [hw6, drew_heap]; exact (two_heap _ _ rfl).2
        have HB6 : Hid (Below w.heap.size w w6) := Lib.hid (by rw [hw6]; exact ((HB.out.alloc HB.out.size _).alloc (by have := HB.out.size; simp; omega) _).drew)
        obtain ⟨c0, c1, c2, c3, c4, c5, _, _, _, _, _, _⟩ := row6 q1
        obtain ⟨d0, d1, d2, d3, d4, d5, _, _, _, _, _, _⟩ := row6 q2
        clear hw6 q1 q2
        by_cases hf : x.fin = -1
        · have e1 : (x.fin != (-1 : Int)) = false := by simp; omega
          clear hf
          go_wp2
          go_roundw
          case rel => exact ⟨i + 1, by go_num, by omega, HB6⟩
          case measure => simp only [intOf]; omega
        · have e1 : (x.fin != (-1 : Int)) = true := by simp; omega
          have ho : x.off = t.off := (HOF.out.resolve_left hf).symm
          rw [ho] at d4
          clear hf ho
          go_wp2
          go_roundw
          case rel => exact ⟨i + 1, by go_num, by omega, HB6⟩
          case measure => simp only [intOf]; omega
      · obtain ⟨w6, hw6⟩ : ∃ w6, w6 = ((wr.alloc (.cells #[.int .i64 (t.kind : Int), .string ⟨t.text.toArray⟩, .int .i64 t.int, .int .i64 (t.op : Int), .int .i64 (x.off : Int), .int .i64 x.fin] 62)).alloc (.cells #[.int .i64 (t.kind : Int), .string ⟨t.text.toArray⟩, .int .i64 t.int, .int .i64 (t.op : Int), .int .i64 (t.off : Int), .int .i64 (t.fin : Int)] 62)).drew := ⟨_, rfl⟩
        rw [← hw6]
        have q1 : w6.heap[wr.heap.size]? = some (.cells #[.int .i64 (t.kind : Int), .string ⟨t.text.toArray⟩, .int .i64 t.int, .int .i64 (t.op : Int), .int .i64 (x.off : Int), .int .i64 x.fin] 62) := by rw [hw6, drew_heap]; exact (two_heap _ _ rfl).1
        have q2 : w6.heap[wr.heap.size + 1]? = some (.cells #[.int .i64 (t.kind : Int), .string ⟨t.text.toArray⟩, .int .i64 t.int, .int .i64 (t.op : Int), .int .i64 (t.off : Int), .int .i64 (t.fin : Int)] 62) := by rw [hw6, drew_heap]; exact (two_heap _ _ rfl).2
        have HB6 : Hid (Below w.heap.size w w6) := Lib.hid (by rw [hw6]; exact ((HB.out.alloc HB.out.size _).alloc (by have := HB.out.size; simp; omega) _).drew)
        obtain ⟨c0, c1, c2, c3, c4, c5, _, _, _, _, _, _⟩ := row6 q2
        obtain ⟨d0, d1, d2, d3, d4, d5, _, _, _, _, _, _⟩ := row6 q1
        clear hw6 q1 q2
        by_cases hf : x.fin = -1
        · have e1 : (x.fin != (-1 : Int)) = false := by simp; omega
          clear hf
          go_wp2
          go_roundw
          case rel => exact ⟨i + 1, by go_num, by omega, HB6⟩
          case measure => simp only [intOf]; omega
        · have e1 : (x.fin != (-1 : Int)) = true := by simp; omega
          have ho : x.off = t.off := (HOF.out.resolve_left hf).symm
          rw [ho] at d4
          clear hf ho
          go_wp2
          go_roundw
          case rel => exact ⟨i + 1, by go_num, by omega, HB6⟩
          case measure => simp only [intOf]; omega
    · have hie : i = n := by omega
      subst hie
      have hnl : ¬ (i : Int) < (i : Int) := by omega
      have hnd : decide ((i : Int) < (i : Int)) = false := decide_eq_false hnl
      go_wp2
      go_ret
      exact ⟨rfl, HB.out⟩
end Go.Proofs.YtncdjkdpoinfaaaGreatDoor
