/-
  Texts of this seat, one behind the other: W46. Conditions: those that each of them states.
-/
import Derived.Test.YtncdjkdpoinfaaaGreatDoorG20
/-
  The walk of edicttop.flatBody, at literals that parse handed back. Conditions: those that the theorem states.
-/
namespace Go.Proofs.YtncdjkdpoinfaaaGreatDoor
open Go.RowKit Go.Shelf Pl

theorem fb_next (ls : List Gr.Lit) (i : Nat) (hi : i < ls.length) : Gr.flatBody (ls.take (i + 1)) = Gr.flatBody (ls.take i) ++ (if i = 0 then [] else [Gr.mkE 7]) ++ Gr.flatLit ls[i] := by
  rw [Gr.take_snoc hi, Gr.flatBody_snoc]
  have : (ls.take i = []) ↔ i = 0 := by
    constructor
    · intro h
      have := congrArg List.length h
      simp only [List.length_take, List.length_nil] at this
      omega
    · intro h; rw [h]; rfl
  by_cases h : i = 0
  · simp [h]
  · rw [if_neg (fun e => h (this.1 e)), if_neg h]
theorem zero_eq (w : World) : (binOp BinOp.eql 59 (.agg #[.int .i64 0, .int .i64 0, .string { data := #[] }, .int .i64 0]) (.agg #[.int .i64 0, .int .i64 0, .string { data := #[] }, .int .i64 0])).run Tryz.prog w = .ok (.bool true) w := by kernel_rfl
theorem term_ne (k : Nat) (a b c : Value) (w : World) (hk : k = 1 ∨ k = 2 ∨ k = 3 ∨ k = 4) : (binOp BinOp.eql 59 (.agg #[.int .i64 (k : Int), a, b, c]) (.agg #[.int .i64 0, .int .i64 0, .string { data := #[] }, .int .i64 0])).run Tryz.prog w = .ok (.bool false) w := by
  rcases hk with rfl | rfl | rfl | rfl <;> kernel_rfl
/-- What flatBody ends with. -/
def BodyOut (w : World) (es : List Gr.Ex) (e : Ending) (w' : World) : Prop := ∃ u, e = .returned (.tuple #[u, .bool true]) ∧ OutV w.heap.size es w' u ∧ Below w.heap.size w w'
theorem lit_len (x : Gr.Lit) (hk : x.kind = 1 ∨ x.kind = 2) : (Gr.flatAtom x.atom).length ≤ (Gr.flatLit x).length := by
  unfold Gr.flatLit
  rcases hk with h | h <;> simp [h]
theorem args_len (x : Gr.Atm) : x.args.length ≤ (Gr.flatAtom x).length := by
  rw [Gr.flatAtom_len]
  split
  · rename_i h; rw [h]; simp
  · omega
theorem rows14 {α : Type} {R : α → List Value → Prop} {D n g cap : Nat} {xs : List α} {rows : List (List Value)} {w : World} (hA : A2 R xs rows) (hm : ∀ x r, R x r → r.length = 14) (hO : w.ownsRow D 101 14 (.slice (some ⟨g, 0, none⟩) n cap) xs.length rows.flatten) {i : Nat} (hi : i < xs.length) :
    ∃ row, R xs[i] row ∧ ∀ j, j < 14 → w.cell? ⟨g, i * 14 + j, none⟩ = row[j]? := by
  obtain ⟨hr, hx⟩ := hA.at i hi
  have hn : n = xs.length := by
    rcases Joins.ownsRow_forms hO with ⟨h5, h6⟩ | ⟨g', cap', h5⟩
    · cases h5
    · injection h5
  subst hn
  refine ⟨rows[i], hx, fun j hj => ?_⟩
  rw [World.ownsRow.cellAt hO (i * 14 + j) (by omega), flatten_at hA hm i hr j hj]

set_option maxRecDepth 100000 in
set_option maxHeartbeats 6400000 in
theorem flatBody_any (ls : List Gr.Lit) (u : Value) (D : Nat) (w : World) (hok : ∀ l ∈ ls, Gr.LitFull l) (hv : LitsV D ls w u) (hlen : (Gr.flatBody ls).length ≤ 70000) (hls : ls.length ≤ 70000) :
    Calls Tryz.prog 32 #[u] w (BodyOut w (Gr.flatBody ls)) := by
  obtain ⟨i62, bi, b0, b1, b2⟩ := info_parts Tryz.info62
  have HOK := Lib.hid hok
  have HLEN := Lib.hid hlen
  obtain ⟨n, hn0⟩ : ∃ n, n = ls.length := ⟨_, rfl⟩
  obtain ⟨sa, sc, rfl⟩ := hv.form
  rw [← hn0] at hv hls ⊢
  have HN := Lib.hid hn0
  clear hn0 hok hlen
  have HV0 := Lib.hid hv
  have HO0 : Hid (OutV w.heap.size (Gr.flatBody (ls.take 0)) w (.slice none 0 0)) := Lib.hid OutV.nil
  have HB0 : Hid (Below w.heap.size w w) := Lib.hid (Below.refl _ _)
  clear hv
  go_enter Tryz.func32, Tryz.ntmps32
  go_wp2
  go_loopw [10, 4] (fun k d wr => ∃ i : Nat, k = .int .i64 (i : Int) ∧ i ≤ n ∧ Hid (OutV w.heap.size (Gr.flatBody (ls.take i)) wr d) ∧ Hid (Below w.heap.size w wr) ∧ Hid (LitsV D ls wr (.slice sa n sc))) (fun k _ _ => n - (intOf k).toNat)
  case atStart => exact ⟨0, rfl, Nat.zero_le _, HO0, HB0, HV0⟩
  case round =>
    obtain ⟨i, rfl, hi, HO, HB, HV⟩ := hrel
    clear HO0 HB0 HV0
    have hel := Gr.flatBody_take_le ls i
    have hel2 := HLEN.out
    obtain ⟨es, hes⟩ : ∃ es, es = Gr.flatBody (ls.take i) := ⟨_, rfl⟩
    rw [← hes] at HO hel
    have HES := Lib.hid hes
    clear hes
    have hel3 : es.length ≤ 70000 := Nat.le_trans hel hel2
    clear hel hel2
    obtain ⟨da, dc, rfl⟩ := HO.out.form
    by_cases h1 : i < n
    · have iI : (i : Int) < (n : Int) := by omega
      have i0 : (0 : Int) ≤ (i : Int) := by omega
      have hwi : IntKind.i64.wrap ((i : Int) + 1) = (i : Int) + 1 := by rw [IntKind.wrap_i64]; omega
      have HI := Lib.hid (show i < ls.length by have := HN.out; omega)
      obtain ⟨rows, hA, hOw⟩ := HV.out
      obtain ⟨g, rfl⟩ : ∃ g, sa = some ⟨g, 0, none⟩ := by
        obtain ⟨g, cap, h5⟩ := Joins.ownsRow_form hOw (by have := HI.out; omega)
        injection h5 with h6 _ _
        exact ⟨g, h6⟩
      obtain ⟨row, ⟨sl, hrow, hoa⟩, hcell⟩ := rows14 hA (fun x r h => by obtain ⟨sl, e, _⟩ := h; rw [e]; rfl) hOw HI.out
      obtain ⟨x, hx⟩ : ∃ x, x = ls[i]'HI.out := ⟨_, rfl⟩
      rw [← hx] at hrow hoa
      obtain ⟨hlo, hao, hto⟩ : Gr.LitFull x := by rw [hx]; exact HOK.out _ (List.getElem_mem _)
      have hfl : (Gr.flatLit x).length ≤ 70000 := by rw [hx]; exact Nat.le_trans (Gr.flatBody_mem_le (List.getElem_mem _)) HLEN.out
      have HNX : Hid (Gr.flatBody (ls.take (i + 1)) = es ++ (if i = 0 then [] else [Gr.mkE 7]) ++ Gr.flatLit x) := Lib.hid (by rw [hx, HES.out]; exact fb_next ls i HI.out)
      have HAO := Lib.hid hao
      have HTO := Lib.hid hto
      have HOA := Lib.hid hoa
      clear hx hA hOw hao hto hoa
      rcases hlo with ⟨q0, q1, q2, q3, q4⟩ | ⟨q0, q1, q2, q3⟩ | ⟨q0, q1, q2⟩
      · obtain ⟨ea, ec, rfl⟩ : ∃ ea ec, sl = .slice ea x.atom.args.length ec := by
          rcases Joins.ownsRow_forms HOA.out with ⟨h5, h6⟩ | ⟨g, cap, h5⟩
          · exact ⟨none, 0, by rw [h5]; rw [h6]⟩
          · exact ⟨_, cap, h5⟩
        obtain ⟨ln, hln⟩ : ∃ ln, ln = x.atom.args.length := ⟨_, rfl⟩
        rw [← hln] at hrow
        have HLN := Lib.hid hln
        have HFL : Hid (Gr.flatLit x = Gr.flatAtom x.atom) := Lib.hid (by simp [Gr.flatLit, q0])
        have hal : (Gr.flatAtom x.atom).length ≤ 70000 := Nat.le_trans (lit_len x (by omega)) hfl
        have hgl : x.atom.args.length ≤ 70000 := Nat.le_trans (args_len x.atom) hal
        have hrow2 : row = [.int .i64 1, .string ⟨x.atom.pred.toArray⟩, .slice ea ln ec, .int .i64 (x.atom.off : Int), .int .i64 0, .int .i64 0, .int .i64 0, .string { data := #[] }, .int .i64 0, .int .i64 0, .int .i64 0, .string { data := #[] }, .int .i64 0, .int .i64 (x.atom.off : Int)] := by rw [hrow]; simp only [litL, q0, q1, q2, q3, q4]; rfl
        rw [hrow2] at hcell
        have m0 : wr.cell? ⟨g, i * 14, none⟩ = some (.int .i64 1) := hcell 0 (by omega)
        have m1 : wr.cell? ⟨g, i * 14 + 1, none⟩ = some (.string ⟨x.atom.pred.toArray⟩) := hcell 1 (by omega)
        have m2 : wr.cell? ⟨g, i * 14 + 2, none⟩ = some (.slice ea ln ec) := hcell 2 (by omega)
        have m3 : wr.cell? ⟨g, i * 14 + 3, none⟩ = some (.int .i64 (x.atom.off : Int)) := hcell 3 (by omega)
        have m4 : wr.cell? ⟨g, i * 14 + 4, none⟩ = some (.int .i64 0) := hcell 4 (by omega)
        have m5 : wr.cell? ⟨g, i * 14 + 5, none⟩ = some (.int .i64 0) := hcell 5 (by omega)
        have m6 : wr.cell? ⟨g, i * 14 + 6, none⟩ = some (.int .i64 0) := hcell 6 (by omega)
        have m7 : wr.cell? ⟨g, i * 14 + 7, none⟩ = some (.string { data := #[] }) := hcell 7 (by omega)
        have m8 : wr.cell? ⟨g, i * 14 + 8, none⟩ = some (.int .i64 0) := hcell 8 (by omega)
        have m9 : wr.cell? ⟨g, i * 14 + 9, none⟩ = some (.int .i64 0) := hcell 9 (by omega)
        have m10 : wr.cell? ⟨g, i * 14 + 10, none⟩ = some (.int .i64 0) := hcell 10 (by omega)
        have m11 : wr.cell? ⟨g, i * 14 + 11, none⟩ = some (.string { data := #[] }) := hcell 11 (by omega)
        have m12 : wr.cell? ⟨g, i * 14 + 12, none⟩ = some (.int .i64 0) := hcell 12 (by omega)
        have m13 : wr.cell? ⟨g, i * 14 + 13, none⟩ = some (.int .i64 (x.atom.off : Int)) := hcell 13 (by omega)
        clear hcell hrow2 hrow q0 q1 q2 q3 q4 hln
        go_upto_region 5 with fail
        obtain ⟨w6, hw6⟩ : ∃ w6, w6 = wr.alloc (.cells #[.int .i64 1, .string ⟨x.atom.pred.toArray⟩, .slice ea ln ec, .int .i64 (x.atom.off : Int), .int .i64 0, .int .i64 0, .int .i64 0, .string { data := #[] }, .int .i64 0, .int .i64 0, .int .i64 0, .string { data := #[] }, .int .i64 0, .int .i64 (x.atom.off : Int)] 101) := ⟨_, rfl⟩
        rw [← hw6]
        have q6 : w6.heap[wr.heap.size]? = some (.cells #[.int .i64 1, .string ⟨x.atom.pred.toArray⟩, .slice ea ln ec, .int .i64 (x.atom.off : Int), .int .i64 0, .int .i64 0, .int .i64 0, .string { data := #[] }, .int .i64 0, .int .i64 0, .int .i64 0, .string { data := #[] }, .int .i64 0, .int .i64 (x.atom.off : Int)] 101) := by rw [hw6]; exact heap_alloc_new _ _
        have k6 : Kt (fun _ => True) wr w6 := by rw [hw6]; exact Kt.alloc _ _
        have HQ6 := Lib.hid q6
        have HO6 := Lib.hid (HO.out.kt k6 trivial)
        have HV6 := Lib.hid (LitsV.kt HV.out k6 trivial trivial)
        have HA6 := Lib.hid (k6.own trivial HOA.out)
        have HB6 : Hid (Below w.heap.size w w6) := Lib.hid (by rw [hw6]; exact HB.out.alloc HB.out.size _)
        obtain ⟨b, hb0⟩ : ∃ b, b = wr.heap.size := ⟨_, rfl⟩
        rw [← hb0] at q6 HQ6 ⊢
        clear hw6 k6 hb0 q6 m0 m1 m2 m3 m4 m5 m6 m7 m8 m9 m10 m11 m12 m13
        by_cases hz : i = 0
        · have e0 : decide ((i : Int) > 0) = false := decide_eq_false (by omega)
          have e0' : decide (0 < i) = false := decide_eq_false (by omega)
          have HNN : Hid (Gr.flatBody (ls.take (i + 1)) = es ++ Gr.flatLit x) := Lib.hid (by rw [HNX.out, if_pos hz]; simp)
          clear hz
          have hz1 := zero_eq
          obtain ⟨p0, p1, p2, p3, p4, p5, p6, p7, p8, p9, p10, p11, p12, p13, pf0, pf1, pf2, pf3, pf4, pf5, pf6, pf7, pf8, pf9, pf10, pf11, pf12, pf13⟩ := row101 HQ6.out
          go_wp2_with fail
          refine (flatAtom_any x.atom (.slice ea ln ec) D _ HAO.out (by rw [HLN.out]; exact HA6.out) hgl).mono ?_
          rintro e wa ⟨ua, rfl, hoa, hba⟩
          have hapos : 0 < (Gr.flatAtom x.atom).length := by simp [Gr.flatAtom]
          obtain ⟨ag, ac, rfl⟩ := Joins.ownsRow_form hoa hapos
          obtain ⟨fs, hfs⟩ : ∃ fs, fs = Gr.flatAtom x.atom := ⟨_, rfl⟩
          rw [← hfs] at hoa hal hapos ⊢
          have HFS := Lib.hid hfs
          have ka : Kt (fun _ => True) w6 wa := Kt.below hba
          have HOa := Lib.hid (HO6.out.kt ka trivial)
          have HVa := Lib.hid (LitsV.kt HV6.out ka trivial trivial)
          have HBa := Lib.hid (HB6.out.trans (hba.mono HB6.out.size))
          have HSa := Lib.hid hoa
          clear hba ka hfs hoa p0 p1 p2 p3 p4 p5 p6 p7 p8 p9 p10 p11 p12 p13 pf0 pf1 pf2 pf3 pf4 pf5 pf6 pf7 pf8 pf9 pf10 pf11 pf12 pf13
          go_wp2_with (at_builtin; refine wpList_append_own _ rfl _ _ 36 rfl w.heap.size 62 i62 (.agg #[.int .i64 0, .string noS, .int .i64 0, .int .i64 0, .int .i64 0, .int .i64 0]) 6 56 Tryz.underlying36 bi b0 b1 b2 rfl (by decide) (.slice da es.length dc) es.length (List.flatMap exV es) rfl HOa.out ⟨ag, 0, none⟩ fs.length ac (List.flatMap exV fs) rfl (ex_len fs) (out_cells HSa.out) (ex_one _) (by unfold maxLen; omega) (by omega) (by have := HBa.out.size; omega) ?_; intro v5 w5 hown5 hgrow5 hnl5; have HO5 := Lib.hid (OutV.more (fs := fs) hown5); have HB5 := Lib.hid (grown_below HBa.out hgrow5 HOa.out (Nat.le_refl _)); have k5 : Kt (fun t => t ≠ 62) wa w5 := Kt.grown hgrow5 HOa.out (by simp); obtain ⟨g5, c5, rfl⟩ := Joins.ownsRow_form hown5 (by omega); have HV5 := Lib.hid (LitsV.kt HVa.out k5 (by decide) (by decide)); clear k5; clear hown5 hgrow5 hnl5)
          go_roundw
          case rel => exact ⟨i + 1, by go_num, by omega, Lib.hid (by rw [HNN.out, HFL.out, ← HFS.out]; exact HO5.out), HB5, HV5⟩
          case measure => simp only [intOf]; omega
        · have e0 : decide ((i : Int) > 0) = true := decide_eq_true (by omega)
          have e0' : decide (0 < i) = true := decide_eq_true (by omega)
          have HNN : Hid (Gr.flatBody (ls.take (i + 1)) = (es ++ [Gr.mkE 7]) ++ Gr.flatLit x) := Lib.hid (by rw [HNX.out, if_neg hz])
          clear hz
          go_wp2_with fail
          refine (mark_any 7 _).mono ?_
          rintro e w7 ⟨rfl, hb7⟩
          simp only [markV]
          have k7 : Kt (fun _ => True) w6 w7 := Kt.below hb7
          have HQ7 := Lib.hid (k7 _ _ _ HQ6.out trivial)
          have HO7 := Lib.hid (HO6.out.kt k7 trivial)
          have HV7 := Lib.hid (LitsV.kt HV6.out k7 trivial trivial)
          have HA7 := Lib.hid (k7.own trivial HA6.out)
          have HB7 := Lib.hid (HB6.out.trans (hb7.mono HB6.out.size))
          clear hb7 k7
          go_upto_region 7 with (at_builtin; refine wpList_append_own _ rfl _ _ 36 rfl w.heap.size 62 i62 (.agg #[.int .i64 0, .string noS, .int .i64 0, .int .i64 0, .int .i64 0, .int .i64 0]) 6 56 Tryz.underlying36 bi b0 b1 b2 rfl (by decide) (.slice da es.length dc) es.length (List.flatMap exV es) rfl (World.ownsRow.alloc HO7.out _) ⟨w7.heap.size, 0, none⟩ 1 1 (exV (Gr.mkE 7)) rfl rfl (World.news_of_block (cs := (exV (Gr.mkE 7)).toArray) (t := 62) (fr := (0, 0)) (heap_alloc_new w7 _)) (evV_one _) (by unfold maxLen; omega) (by omega) (by have := HB7.out.size; simp; omega) ?_; intro v8 w8 hown8 hgrow8 hnl8; have HO8 := Lib.hid (OutV.snoc (e := Gr.mkE 7) hown8); have HB8 := Lib.hid (grown_below (HB7.out.alloc HB7.out.size _) hgrow8 (World.ownsRow.alloc HO7.out _) (Nat.le_refl _)); have k8 : Kt (fun t => t ≠ 62) w7 w8 := (Kt.alloc w7 _).trans (Kt.grown hgrow8 (World.ownsRow.alloc HO7.out _) (by simp)); obtain ⟨g8, c8, rfl⟩ := Joins.ownsRow_form hown8 (by omega); have HQ8 := Lib.hid (k8 _ _ _ HQ7.out (by decide)); have HV8 := Lib.hid (LitsV.kt HV7.out k8 (by decide) (by decide)); have HA8 := Lib.hid (k8.own (by decide) HA7.out); clear k8; clear hown8 hgrow8 hnl8)
          obtain ⟨fe, hfe⟩ : ∃ fe, fe = es ++ [Gr.mkE 7] := ⟨_, rfl⟩
          have HFE : Hid (fe.length = es.length + 1) := Lib.hid (by rw [hfe]; simp)
          rw [← hfe] at HO8 HNN
          rw [← HFE.out] at HO8 ⊢
          have hfel : fe.length ≤ 70001 := by have := HFE.out; omega
          clear hfe
          have hz1 := zero_eq
          obtain ⟨p0, p1, p2, p3, p4, p5, p6, p7, p8, p9, p10, p11, p12, p13, pf0, pf1, pf2, pf3, pf4, pf5, pf6, pf7, pf8, pf9, pf10, pf11, pf12, pf13⟩ := row101 HQ8.out
          go_wp2_with fail
          refine (flatAtom_any x.atom (.slice ea ln ec) D _ HAO.out (by rw [HLN.out]; exact HA8.out) hgl).mono ?_
          rintro e wa ⟨ua, rfl, hoa, hba⟩
          have hapos : 0 < (Gr.flatAtom x.atom).length := by simp [Gr.flatAtom]
          obtain ⟨ag, ac, rfl⟩ := Joins.ownsRow_form hoa hapos
          obtain ⟨fs, hfs⟩ : ∃ fs, fs = Gr.flatAtom x.atom := ⟨_, rfl⟩
          rw [← hfs] at hoa hal hapos ⊢
          have HFS := Lib.hid hfs
          have ka : Kt (fun _ => True) w8 wa := Kt.below hba
          have HOa := Lib.hid (HO8.out.kt ka trivial)
          have HVa := Lib.hid (LitsV.kt HV8.out ka trivial trivial)
          have HBa := Lib.hid (HB8.out.trans (hba.mono HB8.out.size))
          have HSa := Lib.hid hoa
          clear hba ka hfs hoa p0 p1 p2 p3 p4 p5 p6 p7 p8 p9 p10 p11 p12 p13 pf0 pf1 pf2 pf3 pf4 pf5 pf6 pf7 pf8 pf9 pf10 pf11 pf12 pf13
          go_wp2_with (at_builtin; refine wpList_append_own _ rfl _ _ 36 rfl w.heap.size 62 i62 (.agg #[.int .i64 0, .string noS, .int .i64 0, .int .i64 0, .int .i64 0, .int .i64 0]) 6 56 Tryz.underlying36 bi b0 b1 b2 rfl (by decide) (.slice (some ⟨g8, 0, none⟩) fe.length c8) fe.length (List.flatMap exV fe) rfl HOa.out ⟨ag, 0, none⟩ fs.length ac (List.flatMap exV fs) rfl (ex_len fs) (out_cells HSa.out) (ex_one _) (by unfold maxLen; omega) (by omega) (by have := HBa.out.size; omega) ?_; intro v5 w5 hown5 hgrow5 hnl5; have HO5 := Lib.hid (OutV.more (fs := fs) hown5); have HB5 := Lib.hid (grown_below HBa.out hgrow5 HOa.out (Nat.le_refl _)); have k5 : Kt (fun t => t ≠ 62) wa w5 := Kt.grown hgrow5 HOa.out (by simp); obtain ⟨g5, c5, rfl⟩ := Joins.ownsRow_form hown5 (by omega); have HV5 := Lib.hid (LitsV.kt HVa.out k5 (by decide) (by decide)); clear k5; clear hown5 hgrow5 hnl5)
          go_roundw
          case rel => exact ⟨i + 1, by go_num, by omega, Lib.hid (by rw [HNN.out, HFL.out, ← HFS.out]; exact HO5.out), HB5, HV5⟩
          case measure => simp only [intOf]; omega
      · obtain ⟨ea, ec, rfl⟩ : ∃ ea ec, sl = .slice ea x.atom.args.length ec := by
          rcases Joins.ownsRow_forms HOA.out with ⟨h5, h6⟩ | ⟨g, cap, h5⟩
          · exact ⟨none, 0, by rw [h5]; rw [h6]⟩
          · exact ⟨_, cap, h5⟩
        obtain ⟨ln, hln⟩ : ∃ ln, ln = x.atom.args.length := ⟨_, rfl⟩
        rw [← hln] at hrow
        have HLN := Lib.hid hln
        have HFL : Hid (Gr.flatLit x = ⟨10, [], 0, 0, some x.off⟩ :: Gr.flatAtom x.atom) := Lib.hid (by simp [Gr.flatLit, q0])
        have hal : (Gr.flatAtom x.atom).length ≤ 70000 := Nat.le_trans (lit_len x (by omega)) hfl
        have hgl : x.atom.args.length ≤ 70000 := Nat.le_trans (args_len x.atom) hal
        have hrow2 : row = [.int .i64 2, .string ⟨x.atom.pred.toArray⟩, .slice ea ln ec, .int .i64 (x.atom.off : Int), .int .i64 0, .int .i64 0, .int .i64 0, .string { data := #[] }, .int .i64 0, .int .i64 0, .int .i64 0, .string { data := #[] }, .int .i64 0, .int .i64 (x.off : Int)] := by rw [hrow]; simp only [litL, q0, q1, q2, q3]; rfl
        rw [hrow2] at hcell
        have m0 : wr.cell? ⟨g, i * 14, none⟩ = some (.int .i64 2) := hcell 0 (by omega)
        have m1 : wr.cell? ⟨g, i * 14 + 1, none⟩ = some (.string ⟨x.atom.pred.toArray⟩) := hcell 1 (by omega)
        have m2 : wr.cell? ⟨g, i * 14 + 2, none⟩ = some (.slice ea ln ec) := hcell 2 (by omega)
        have m3 : wr.cell? ⟨g, i * 14 + 3, none⟩ = some (.int .i64 (x.atom.off : Int)) := hcell 3 (by omega)
        have m4 : wr.cell? ⟨g, i * 14 + 4, none⟩ = some (.int .i64 0) := hcell 4 (by omega)
        have m5 : wr.cell? ⟨g, i * 14 + 5, none⟩ = some (.int .i64 0) := hcell 5 (by omega)
        have m6 : wr.cell? ⟨g, i * 14 + 6, none⟩ = some (.int .i64 0) := hcell 6 (by omega)
        have m7 : wr.cell? ⟨g, i * 14 + 7, none⟩ = some (.string { data := #[] }) := hcell 7 (by omega)
        have m8 : wr.cell? ⟨g, i * 14 + 8, none⟩ = some (.int .i64 0) := hcell 8 (by omega)
        have m9 : wr.cell? ⟨g, i * 14 + 9, none⟩ = some (.int .i64 0) := hcell 9 (by omega)
        have m10 : wr.cell? ⟨g, i * 14 + 10, none⟩ = some (.int .i64 0) := hcell 10 (by omega)
        have m11 : wr.cell? ⟨g, i * 14 + 11, none⟩ = some (.string { data := #[] }) := hcell 11 (by omega)
        have m12 : wr.cell? ⟨g, i * 14 + 12, none⟩ = some (.int .i64 0) := hcell 12 (by omega)
        have m13 : wr.cell? ⟨g, i * 14 + 13, none⟩ = some (.int .i64 (x.off : Int)) := hcell 13 (by omega)
        clear hcell hrow2 hrow q0 q1 q2 q3 hln
        go_upto_region 5 with fail
        obtain ⟨w6, hw6⟩ : ∃ w6, w6 = wr.alloc (.cells #[.int .i64 2, .string ⟨x.atom.pred.toArray⟩, .slice ea ln ec, .int .i64 (x.atom.off : Int), .int .i64 0, .int .i64 0, .int .i64 0, .string { data := #[] }, .int .i64 0, .int .i64 0, .int .i64 0, .string { data := #[] }, .int .i64 0, .int .i64 (x.off : Int)] 101) := ⟨_, rfl⟩
        rw [← hw6]
        have q6 : w6.heap[wr.heap.size]? = some (.cells #[.int .i64 2, .string ⟨x.atom.pred.toArray⟩, .slice ea ln ec, .int .i64 (x.atom.off : Int), .int .i64 0, .int .i64 0, .int .i64 0, .string { data := #[] }, .int .i64 0, .int .i64 0, .int .i64 0, .string { data := #[] }, .int .i64 0, .int .i64 (x.off : Int)] 101) := by rw [hw6]; exact heap_alloc_new _ _
        have k6 : Kt (fun _ => True) wr w6 := by rw [hw6]; exact Kt.alloc _ _
        have HQ6 := Lib.hid q6
        have HO6 := Lib.hid (HO.out.kt k6 trivial)
        have HV6 := Lib.hid (LitsV.kt HV.out k6 trivial trivial)
        have HA6 := Lib.hid (k6.own trivial HOA.out)
        have HB6 : Hid (Below w.heap.size w w6) := Lib.hid (by rw [hw6]; exact HB.out.alloc HB.out.size _)
        obtain ⟨b, hb0⟩ : ∃ b, b = wr.heap.size := ⟨_, rfl⟩
        rw [← hb0] at q6 HQ6 ⊢
        clear hw6 k6 hb0 q6 m0 m1 m2 m3 m4 m5 m6 m7 m8 m9 m10 m11 m12 m13
        by_cases hz : i = 0
        · have e0 : decide ((i : Int) > 0) = false := decide_eq_false (by omega)
          have e0' : decide (0 < i) = false := decide_eq_false (by omega)
          have HNN : Hid (Gr.flatBody (ls.take (i + 1)) = es ++ Gr.flatLit x) := Lib.hid (by rw [HNX.out, if_pos hz]; simp)
          clear hz
          have hz1 := zero_eq
          obtain ⟨p0, p1, p2, p3, p4, p5, p6, p7, p8, p9, p10, p11, p12, p13, pf0, pf1, pf2, pf3, pf4, pf5, pf6, pf7, pf8, pf9, pf10, pf11, pf12, pf13⟩ := row101 HQ6.out
          go_wp2_with (at_builtin; refine wpList_append_own _ rfl _ _ 36 rfl w.heap.size 62 i62 (.agg #[.int .i64 0, .string noS, .int .i64 0, .int .i64 0, .int .i64 0, .int .i64 0]) 6 56 Tryz.underlying36 bi b0 b1 b2 rfl (by decide) (.slice da es.length dc) es.length (List.flatMap exV es) rfl (World.ownsRow.alloc HO6.out _) ⟨w6.heap.size, 0, none⟩ 1 1 (exV (⟨10, [], 0, 0, some x.off⟩)) rfl rfl (World.news_of_block (cs := (exV (⟨10, [], 0, 0, some x.off⟩)).toArray) (t := 62) (fr := (0, 0)) (heap_alloc_new w6 _)) (evV_one _) (by unfold maxLen; omega) (by omega) (by have := HB6.out.size; simp; omega) ?_; intro v3 w3 hown3 hgrow3 hnl3; have HO3 := Lib.hid (OutV.snoc (e := ⟨10, [], 0, 0, some x.off⟩) hown3); have HB3 := Lib.hid (grown_below (HB6.out.alloc HB6.out.size _) hgrow3 (World.ownsRow.alloc HO6.out _) (Nat.le_refl _)); have k3 : Kt (fun t => t ≠ 62) w6 w3 := (Kt.alloc w6 _).trans (Kt.grown hgrow3 (World.ownsRow.alloc HO6.out _) (by simp)); obtain ⟨g3, c3, rfl⟩ := Joins.ownsRow_form hown3 (by omega); have q3 := k3 _ _ _ HQ6.out (by decide); have HV3 := Lib.hid (LitsV.kt HV6.out k3 (by decide) (by decide)); have HA3 := Lib.hid (k3.own (by decide) HA6.out); obtain ⟨r0, r1, r2, r3, r4, r5, r6, r7, r8, r9, r10, r11, r12, r13, rf0, rf1, rf2, rf3, rf4, rf5, rf6, rf7, rf8, rf9, rf10, rf11, rf12, rf13⟩ := row101 q3; clear k3 q3; clear hown3 hgrow3 hnl3)
          refine (flatAtom_any x.atom (.slice ea ln ec) D _ HAO.out (by rw [HLN.out]; exact HA3.out) hgl).mono ?_
          rintro e wa ⟨ua, rfl, hoa, hba⟩
          have hapos : 0 < (Gr.flatAtom x.atom).length := by simp [Gr.flatAtom]
          obtain ⟨ag, ac, rfl⟩ := Joins.ownsRow_form hoa hapos
          obtain ⟨fs, hfs⟩ : ∃ fs, fs = Gr.flatAtom x.atom := ⟨_, rfl⟩
          rw [← hfs] at hoa hal hapos ⊢
          have HFS := Lib.hid hfs
          have ka : Kt (fun _ => True) w3 wa := Kt.below hba
          obtain ⟨ht, hht⟩ : ∃ ht, ht = es ++ [(⟨10, [], 0, 0, some x.off⟩ : Gr.Ex)] := ⟨_, rfl⟩
          have HHL : Hid (ht.length = es.length + 1) := Lib.hid (by rw [hht]; simp)
          have HHT := Lib.hid hht
          have HOa := Lib.hid (HO3.out.kt ka trivial)
          rw [← hht] at HOa
          rw [← HHL.out] at HOa ⊢
          have hhl : ht.length ≤ 70002 := by have := HHL.out; omega
          have HVa := Lib.hid (LitsV.kt HV3.out ka trivial trivial)
          have HBa := Lib.hid (HB3.out.trans (hba.mono HB3.out.size))
          have HSa := Lib.hid hoa
          clear hba ka hfs hoa hht r0 r1 r2 r3 r4 r5 r6 r7 r8 r9 r10 r11 r12 r13 rf0 rf1 rf2 rf3 rf4 rf5 rf6 rf7 rf8 rf9 rf10 rf11 rf12 rf13
          go_wp2_with (at_builtin; refine wpList_append_own _ rfl _ _ 36 rfl w.heap.size 62 i62 (.agg #[.int .i64 0, .string noS, .int .i64 0, .int .i64 0, .int .i64 0, .int .i64 0]) 6 56 Tryz.underlying36 bi b0 b1 b2 rfl (by decide) (.slice (some ⟨g3, 0, none⟩) ht.length c3) ht.length (List.flatMap exV ht) rfl HOa.out ⟨ag, 0, none⟩ fs.length ac (List.flatMap exV fs) rfl (ex_len fs) (out_cells HSa.out) (ex_one _) (by unfold maxLen; omega) (by omega) (by have := HBa.out.size; omega) ?_; intro v5 w5 hown5 hgrow5 hnl5; have HO5 := Lib.hid (OutV.more (fs := fs) hown5); have HB5 := Lib.hid (grown_below HBa.out hgrow5 HOa.out (Nat.le_refl _)); have k5 : Kt (fun t => t ≠ 62) wa w5 := Kt.grown hgrow5 HOa.out (by simp); obtain ⟨g5, c5, rfl⟩ := Joins.ownsRow_form hown5 (by omega); have HV5 := Lib.hid (LitsV.kt HVa.out k5 (by decide) (by decide)); clear k5; clear hown5 hgrow5 hnl5)
          go_roundw
          case rel => exact ⟨i + 1, by go_num, by omega, Lib.hid (by rw [HNN.out, HFL.out, ← HFS.out, show es ++ (⟨10, [], 0, 0, some x.off⟩ : Gr.Ex) :: fs = ht ++ fs by rw [HHT.out]; simp]; exact HO5.out), HB5, HV5⟩
          case measure => simp only [intOf]; omega
        · have e0 : decide ((i : Int) > 0) = true := decide_eq_true (by omega)
          have e0' : decide (0 < i) = true := decide_eq_true (by omega)
          have HNN : Hid (Gr.flatBody (ls.take (i + 1)) = (es ++ [Gr.mkE 7]) ++ Gr.flatLit x) := Lib.hid (by rw [HNX.out, if_neg hz])
          clear hz
          go_wp2_with fail
          refine (mark_any 7 _).mono ?_
          rintro e w7 ⟨rfl, hb7⟩
          simp only [markV]
          have k7 : Kt (fun _ => True) w6 w7 := Kt.below hb7
          have HQ7 := Lib.hid (k7 _ _ _ HQ6.out trivial)
          have HO7 := Lib.hid (HO6.out.kt k7 trivial)
          have HV7 := Lib.hid (LitsV.kt HV6.out k7 trivial trivial)
          have HA7 := Lib.hid (k7.own trivial HA6.out)
          have HB7 := Lib.hid (HB6.out.trans (hb7.mono HB6.out.size))
          clear hb7 k7
          go_upto_region 7 with (at_builtin; refine wpList_append_own _ rfl _ _ 36 rfl w.heap.size 62 i62 (.agg #[.int .i64 0, .string noS, .int .i64 0, .int .i64 0, .int .i64 0, .int .i64 0]) 6 56 Tryz.underlying36 bi b0 b1 b2 rfl (by decide) (.slice da es.length dc) es.length (List.flatMap exV es) rfl (World.ownsRow.alloc HO7.out _) ⟨w7.heap.size, 0, none⟩ 1 1 (exV (Gr.mkE 7)) rfl rfl (World.news_of_block (cs := (exV (Gr.mkE 7)).toArray) (t := 62) (fr := (0, 0)) (heap_alloc_new w7 _)) (evV_one _) (by unfold maxLen; omega) (by omega) (by have := HB7.out.size; simp; omega) ?_; intro v8 w8 hown8 hgrow8 hnl8; have HO8 := Lib.hid (OutV.snoc (e := Gr.mkE 7) hown8); have HB8 := Lib.hid (grown_below (HB7.out.alloc HB7.out.size _) hgrow8 (World.ownsRow.alloc HO7.out _) (Nat.le_refl _)); have k8 : Kt (fun t => t ≠ 62) w7 w8 := (Kt.alloc w7 _).trans (Kt.grown hgrow8 (World.ownsRow.alloc HO7.out _) (by simp)); obtain ⟨g8, c8, rfl⟩ := Joins.ownsRow_form hown8 (by omega); have HQ8 := Lib.hid (k8 _ _ _ HQ7.out (by decide)); have HV8 := Lib.hid (LitsV.kt HV7.out k8 (by decide) (by decide)); have HA8 := Lib.hid (k8.own (by decide) HA7.out); clear k8; clear hown8 hgrow8 hnl8)
          obtain ⟨fe, hfe⟩ : ∃ fe, fe = es ++ [Gr.mkE 7] := ⟨_, rfl⟩
          have HFE : Hid (fe.length = es.length + 1) := Lib.hid (by rw [hfe]; simp)
          rw [← hfe] at HO8 HNN
          rw [← HFE.out] at HO8 ⊢
          have hfel : fe.length ≤ 70001 := by have := HFE.out; omega
          clear hfe
          have hz1 := zero_eq
          obtain ⟨p0, p1, p2, p3, p4, p5, p6, p7, p8, p9, p10, p11, p12, p13, pf0, pf1, pf2, pf3, pf4, pf5, pf6, pf7, pf8, pf9, pf10, pf11, pf12, pf13⟩ := row101 HQ8.out
          go_wp2_with (at_builtin; refine wpList_append_own _ rfl _ _ 36 rfl w.heap.size 62 i62 (.agg #[.int .i64 0, .string noS, .int .i64 0, .int .i64 0, .int .i64 0, .int .i64 0]) 6 56 Tryz.underlying36 bi b0 b1 b2 rfl (by decide) (.slice (some ⟨g8, 0, none⟩) fe.length c8) fe.length (List.flatMap exV fe) rfl (World.ownsRow.alloc HO8.out _) ⟨w8.heap.size, 0, none⟩ 1 1 (exV (⟨10, [], 0, 0, some x.off⟩)) rfl rfl (World.news_of_block (cs := (exV (⟨10, [], 0, 0, some x.off⟩)).toArray) (t := 62) (fr := (0, 0)) (heap_alloc_new w8 _)) (evV_one _) (by unfold maxLen; omega) (by omega) (by have := HB8.out.size; simp; omega) ?_; intro v3 w3 hown3 hgrow3 hnl3; have HO3 := Lib.hid (OutV.snoc (e := ⟨10, [], 0, 0, some x.off⟩) hown3); have HB3 := Lib.hid (grown_below (HB8.out.alloc HB8.out.size _) hgrow3 (World.ownsRow.alloc HO8.out _) (Nat.le_refl _)); have k3 : Kt (fun t => t ≠ 62) w8 w3 := (Kt.alloc w8 _).trans (Kt.grown hgrow3 (World.ownsRow.alloc HO8.out _) (by simp)); obtain ⟨g3, c3, rfl⟩ := Joins.ownsRow_form hown3 (by omega); have q3 := k3 _ _ _ HQ8.out (by decide); have HV3 := Lib.hid (LitsV.kt HV8.out k3 (by decide) (by decide)); have HA3 := Lib.hid (k3.own (by decide) HA8.out); obtain ⟨r0, r1, r2, r3, r4, r5, r6, r7, r8, r9, r10, r11, r12, r13, rf0, rf1, rf2, rf3, rf4, rf5, rf6, rf7, rf8, rf9, rf10, rf11, rf12, rf13⟩ := row101 q3; clear k3 q3; clear hown3 hgrow3 hnl3)
          refine (flatAtom_any x.atom (.slice ea ln ec) D _ HAO.out (by rw [HLN.out]; exact HA3.out) hgl).mono ?_
          rintro e wa ⟨ua, rfl, hoa, hba⟩
          have hapos : 0 < (Gr.flatAtom x.atom).length := by simp [Gr.flatAtom]
          obtain ⟨ag, ac, rfl⟩ := Joins.ownsRow_form hoa hapos
          obtain ⟨fs, hfs⟩ : ∃ fs, fs = Gr.flatAtom x.atom := ⟨_, rfl⟩
          rw [← hfs] at hoa hal hapos ⊢
          have HFS := Lib.hid hfs
          have ka : Kt (fun _ => True) w3 wa := Kt.below hba
          obtain ⟨ht, hht⟩ : ∃ ht, ht = fe ++ [(⟨10, [], 0, 0, some x.off⟩ : Gr.Ex)] := ⟨_, rfl⟩
          have HHL : Hid (ht.length = fe.length + 1) := Lib.hid (by rw [hht]; simp)
          have HHT := Lib.hid hht
          have HOa := Lib.hid (HO3.out.kt ka trivial)
          rw [← hht] at HOa
          rw [← HHL.out] at HOa ⊢
          have hhl : ht.length ≤ 70002 := by have := HHL.out; omega
          have HVa := Lib.hid (LitsV.kt HV3.out ka trivial trivial)
          have HBa := Lib.hid (HB3.out.trans (hba.mono HB3.out.size))
          have HSa := Lib.hid hoa
          clear hba ka hfs hoa hht r0 r1 r2 r3 r4 r5 r6 r7 r8 r9 r10 r11 r12 r13 rf0 rf1 rf2 rf3 rf4 rf5 rf6 rf7 rf8 rf9 rf10 rf11 rf12 rf13
          go_wp2_with (at_builtin; refine wpList_append_own _ rfl _ _ 36 rfl w.heap.size 62 i62 (.agg #[.int .i64 0, .string noS, .int .i64 0, .int .i64 0, .int .i64 0, .int .i64 0]) 6 56 Tryz.underlying36 bi b0 b1 b2 rfl (by decide) (.slice (some ⟨g3, 0, none⟩) ht.length c3) ht.length (List.flatMap exV ht) rfl HOa.out ⟨ag, 0, none⟩ fs.length ac (List.flatMap exV fs) rfl (ex_len fs) (out_cells HSa.out) (ex_one _) (by unfold maxLen; omega) (by omega) (by have := HBa.out.size; omega) ?_; intro v5 w5 hown5 hgrow5 hnl5; have HO5 := Lib.hid (OutV.more (fs := fs) hown5); have HB5 := Lib.hid (grown_below HBa.out hgrow5 HOa.out (Nat.le_refl _)); have k5 : Kt (fun t => t ≠ 62) wa w5 := Kt.grown hgrow5 HOa.out (by simp); obtain ⟨g5, c5, rfl⟩ := Joins.ownsRow_form hown5 (by omega); have HV5 := Lib.hid (LitsV.kt HVa.out k5 (by decide) (by decide)); clear k5; clear hown5 hgrow5 hnl5)
          go_roundw
          case rel => exact ⟨i + 1, by go_num, by omega, Lib.hid (by rw [HNN.out, HFL.out, ← HFS.out, show fe ++ (⟨10, [], 0, 0, some x.off⟩ : Gr.Ex) :: fs = ht ++ fs by rw [HHT.out]; simp]; exact HO5.out), HB5, HV5⟩
          case measure => simp only [intOf]; omega
      · have HFL : Hid (Gr.flatLit x = [Gr.flatTerm x.left, ⟨11, [], 0, x.op, none⟩, Gr.flatTerm x.right]) := Lib.hid (by simp [Gr.flatLit, q0])
        obtain ⟨hlk, hrk⟩ := HTO.out q0
        have HLK := Lib.hid hlk
        have HRK := Lib.hid hrk
        clear hlk hrk
        obtain ⟨ea, ec, hsl⟩ : ∃ ea ec, sl = .slice ea 0 ec := by
          have := HOA.out
          rw [q2] at this
          rcases Joins.ownsRow_forms this with ⟨h5, h6⟩ | ⟨g, cap, h5⟩
          · exact ⟨none, 0, h5⟩
          · exact ⟨_, cap, h5⟩
        have hrow2 : row = [.int .i64 3, .string { data := #[] }, .slice ea 0 ec, .int .i64 0, .int .i64 (x.op : Int), .int .i64 (x.left.kind : Int), .int .i64 x.left.int, .string ⟨x.left.text.toArray⟩, .int .i64 (x.left.off : Int), .int .i64 (x.right.kind : Int), .int .i64 x.right.int, .string ⟨x.right.text.toArray⟩, .int .i64 (x.right.off : Int), .int .i64 (x.left.off : Int)] := by rw [hrow, hsl]; simp only [litL, q0, q1, q2]; rfl
        rw [hrow2] at hcell
        have m0 : wr.cell? ⟨g, i * 14, none⟩ = some (.int .i64 3) := hcell 0 (by omega)
        have m1 : wr.cell? ⟨g, i * 14 + 1, none⟩ = some (.string { data := #[] }) := hcell 1 (by omega)
        have m2 : wr.cell? ⟨g, i * 14 + 2, none⟩ = some (.slice ea 0 ec) := hcell 2 (by omega)
        have m3 : wr.cell? ⟨g, i * 14 + 3, none⟩ = some (.int .i64 0) := hcell 3 (by omega)
        have m4 : wr.cell? ⟨g, i * 14 + 4, none⟩ = some (.int .i64 (x.op : Int)) := hcell 4 (by omega)
        have m5 : wr.cell? ⟨g, i * 14 + 5, none⟩ = some (.int .i64 (x.left.kind : Int)) := hcell 5 (by omega)
        have m6 : wr.cell? ⟨g, i * 14 + 6, none⟩ = some (.int .i64 x.left.int) := hcell 6 (by omega)
        have m7 : wr.cell? ⟨g, i * 14 + 7, none⟩ = some (.string ⟨x.left.text.toArray⟩) := hcell 7 (by omega)
        have m8 : wr.cell? ⟨g, i * 14 + 8, none⟩ = some (.int .i64 (x.left.off : Int)) := hcell 8 (by omega)
        have m9 : wr.cell? ⟨g, i * 14 + 9, none⟩ = some (.int .i64 (x.right.kind : Int)) := hcell 9 (by omega)
        have m10 : wr.cell? ⟨g, i * 14 + 10, none⟩ = some (.int .i64 x.right.int) := hcell 10 (by omega)
        have m11 : wr.cell? ⟨g, i * 14 + 11, none⟩ = some (.string ⟨x.right.text.toArray⟩) := hcell 11 (by omega)
        have m12 : wr.cell? ⟨g, i * 14 + 12, none⟩ = some (.int .i64 (x.right.off : Int)) := hcell 12 (by omega)
        have m13 : wr.cell? ⟨g, i * 14 + 13, none⟩ = some (.int .i64 (x.left.off : Int)) := hcell 13 (by omega)
        clear hcell hrow2 hrow q0 q1 q2 hsl
        go_upto_region 5 with fail
        obtain ⟨w6, hw6⟩ : ∃ w6, w6 = wr.alloc (.cells #[.int .i64 3, .string { data := #[] }, .slice ea 0 ec, .int .i64 0, .int .i64 (x.op : Int), .int .i64 (x.left.kind : Int), .int .i64 x.left.int, .string ⟨x.left.text.toArray⟩, .int .i64 (x.left.off : Int), .int .i64 (x.right.kind : Int), .int .i64 x.right.int, .string ⟨x.right.text.toArray⟩, .int .i64 (x.right.off : Int), .int .i64 (x.left.off : Int)] 101) := ⟨_, rfl⟩
        rw [← hw6]
        have q6 : w6.heap[wr.heap.size]? = some (.cells #[.int .i64 3, .string { data := #[] }, .slice ea 0 ec, .int .i64 0, .int .i64 (x.op : Int), .int .i64 (x.left.kind : Int), .int .i64 x.left.int, .string ⟨x.left.text.toArray⟩, .int .i64 (x.left.off : Int), .int .i64 (x.right.kind : Int), .int .i64 x.right.int, .string ⟨x.right.text.toArray⟩, .int .i64 (x.right.off : Int), .int .i64 (x.left.off : Int)] 101) := by rw [hw6]; exact heap_alloc_new _ _
        have k6 : Kt (fun _ => True) wr w6 := by rw [hw6]; exact Kt.alloc _ _
        have HQ6 := Lib.hid q6
        have HO6 := Lib.hid (HO.out.kt k6 trivial)
        have HV6 := Lib.hid (LitsV.kt HV.out k6 trivial trivial)
        have HA6 := Lib.hid (k6.own trivial HOA.out)
        have HB6 : Hid (Below w.heap.size w w6) := Lib.hid (by rw [hw6]; exact HB.out.alloc HB.out.size _)
        obtain ⟨b, hb0⟩ : ∃ b, b = wr.heap.size := ⟨_, rfl⟩
        rw [← hb0] at q6 HQ6 ⊢
        clear hw6 k6 hb0 q6 m0 m1 m2 m3 m4 m5 m6 m7 m8 m9 m10 m11 m12 m13
        by_cases hz : i = 0
        · have e0 : decide ((i : Int) > 0) = false := decide_eq_false (by omega)
          have e0' : decide (0 < i) = false := decide_eq_false (by omega)
          have HNN : Hid (Gr.flatBody (ls.take (i + 1)) = es ++ Gr.flatLit x) := Lib.hid (by rw [HNX.out, if_pos hz]; simp)
          clear hz
          have hz1 := fun v => term_ne x.left.kind (.int .i64 x.left.int) (.string ⟨x.left.text.toArray⟩) (.int .i64 (x.left.off : Int)) v HLK.out
          obtain ⟨p0, p1, p2, p3, p4, p5, p6, p7, p8, p9, p10, p11, p12, p13, pf0, pf1, pf2, pf3, pf4, pf5, pf6, pf7, pf8, pf9, pf10, pf11, pf12, pf13⟩ := row101 HQ6.out
          go_upto_region 22 with fail
          clear hz1 p0 p1 p2 p3 p4 p5 p6 p7 p8 p9 p10 p11 p12 p13 pf0 pf1 pf2 pf3 pf4 pf5 pf6 pf7 pf8 pf9 pf10 pf11 pf12 pf13
          have HQd : Hid (w6.drew.heap[b]? = some (.cells #[.int .i64 3, .string { data := #[] }, .slice ea 0 ec, .int .i64 0, .int .i64 (x.op : Int), .int .i64 (x.left.kind : Int), .int .i64 x.left.int, .string ⟨x.left.text.toArray⟩, .int .i64 (x.left.off : Int), .int .i64 (x.right.kind : Int), .int .i64 x.right.int, .string ⟨x.right.text.toArray⟩, .int .i64 (x.right.off : Int), .int .i64 (x.left.off : Int)] 101)) := Lib.hid HQ6.out
          refine wp_region_T (fun z => z.heap[b]? = some (.cells #[.int .i64 3, .string { data := #[] }, .slice ea 0 ec, .int .i64 0, .int .i64 (x.op : Int), .int .i64 (x.left.kind : Int), .int .i64 x.left.int, .string ⟨x.left.text.toArray⟩, .int .i64 (x.left.off : Int), .int .i64 (x.right.kind : Int), .int .i64 x.right.int, .string ⟨x.right.text.toArray⟩, .int .i64 (x.right.off : Int), .int .i64 (x.left.off : Int)] 101)) 12 (by kernel_rfl) ?_
          have hS := HQd.out
          refine wpAnyT_tk 0 _ ?_ rfl rfl (by kernel_rfl) (fun _ _ _ h => h) (by assumption) (Or.inl ⟨by rfl, fun z hx => ?_⟩) ?_
          rotate_left
          · obtain ⟨m0, m1, m2, m3, m4, m5, m6, m7, m8, m9, m10, m11, m12, m13, mf0, mf1, mf2, mf3, mf4, mf5, mf6, mf7, mf8, mf9, mf10, mf11, mf12, mf13⟩ := row101 hx
            clear hx
            go_simp
            try with_reducible rfl
          try simp only [Act.put, List.setIfInBounds_toArray, List.set_cons_zero, List.set_cons_succ]
          refine wpAnyT_tk 1 _ ?_ rfl rfl (by kernel_rfl) (fun _ _ _ h => h) (by assumption) (Or.inl ⟨by rfl, fun z hx => ?_⟩) ?_
          rotate_left
          · obtain ⟨m0, m1, m2, m3, m4, m5, m6, m7, m8, m9, m10, m11, m12, m13, mf0, mf1, mf2, mf3, mf4, mf5, mf6, mf7, mf8, mf9, mf10, mf11, mf12, mf13⟩ := row101 hx
            clear hx
            go_simp
            try with_reducible rfl
          try simp only [Act.put, List.setIfInBounds_toArray, List.set_cons_zero, List.set_cons_succ]
          refine wpAnyT_tk 2 _ ?_ rfl rfl (by kernel_rfl) (fun _ _ _ h => h) (by assumption) (Or.inl ⟨by rfl, fun z hx => ?_⟩) ?_
          rotate_left
          · obtain ⟨m0, m1, m2, m3, m4, m5, m6, m7, m8, m9, m10, m11, m12, m13, mf0, mf1, mf2, mf3, mf4, mf5, mf6, mf7, mf8, mf9, mf10, mf11, mf12, mf13⟩ := row101 hx
            clear hx
            go_simp
            try with_reducible rfl
          try simp only [Act.put, List.setIfInBounds_toArray, List.set_cons_zero, List.set_cons_succ]
          refine wpAnyT_tk 4 _ ?_ rfl rfl (by kernel_rfl) (fun _ _ _ h => h) (by assumption) (Or.inl ⟨by rfl, fun z hx => ?_⟩) ?_
          rotate_left
          · obtain ⟨m0, m1, m2, m3, m4, m5, m6, m7, m8, m9, m10, m11, m12, m13, mf0, mf1, mf2, mf3, mf4, mf5, mf6, mf7, mf8, mf9, mf10, mf11, mf12, mf13⟩ := row101 hx
            clear hx
            go_simp
            try with_reducible rfl
          try simp only [Act.put, List.setIfInBounds_toArray, List.set_cons_zero, List.set_cons_succ]
          refine wpAnyT_tk 5 _ ?_ rfl rfl (by kernel_rfl) (fun _ _ _ h => h) (by assumption) (Or.inl ⟨by rfl, fun z hx => ?_⟩) ?_
          rotate_left
          · obtain ⟨m0, m1, m2, m3, m4, m5, m6, m7, m8, m9, m10, m11, m12, m13, mf0, mf1, mf2, mf3, mf4, mf5, mf6, mf7, mf8, mf9, mf10, mf11, mf12, mf13⟩ := row101 hx
            clear hx
            go_simp
            try with_reducible rfl
          try simp only [Act.put, List.setIfInBounds_toArray, List.set_cons_zero, List.set_cons_succ]
          refine wpAnyT_tk 6 _ ?_ rfl rfl (by kernel_rfl) (fun _ _ _ h => h) (by assumption) (Or.inl ⟨by rfl, fun z hx => ?_⟩) ?_
          rotate_left
          · obtain ⟨m0, m1, m2, m3, m4, m5, m6, m7, m8, m9, m10, m11, m12, m13, mf0, mf1, mf2, mf3, mf4, mf5, mf6, mf7, mf8, mf9, mf10, mf11, mf12, mf13⟩ := row101 hx
            clear hx
            go_simp
            try with_reducible rfl
          try simp only [Act.put, List.setIfInBounds_toArray, List.set_cons_zero, List.set_cons_succ]
          refine wpAnyT_tk 7 _ ?_ rfl rfl (by kernel_rfl) (fun _ _ _ h => h) (by assumption) (Or.inl ⟨by rfl, fun z hx => ?_⟩) ?_
          rotate_left
          · obtain ⟨m0, m1, m2, m3, m4, m5, m6, m7, m8, m9, m10, m11, m12, m13, mf0, mf1, mf2, mf3, mf4, mf5, mf6, mf7, mf8, mf9, mf10, mf11, mf12, mf13⟩ := row101 hx
            clear hx
            go_simp
            try with_reducible rfl
          try simp only [Act.put, List.setIfInBounds_toArray, List.set_cons_zero, List.set_cons_succ]
          refine wpAnyT_tk 8 _ ?_ rfl rfl (by kernel_rfl) (fun _ _ _ h => h) (by assumption) (Or.inl ⟨by rfl, fun z hx => ?_⟩) ?_
          rotate_left
          · obtain ⟨m0, m1, m2, m3, m4, m5, m6, m7, m8, m9, m10, m11, m12, m13, mf0, mf1, mf2, mf3, mf4, mf5, mf6, mf7, mf8, mf9, mf10, mf11, mf12, mf13⟩ := row101 hx
            clear hx
            go_simp
            try with_reducible rfl
          try simp only [Act.put, List.setIfInBounds_toArray, List.set_cons_zero, List.set_cons_succ]
          refine wpAnyT_one 3 rfl (by kernel_rfl) (fun K' hK' => ?_)
          go_simp
          go_at_call 35
          refine (flatTerm_any x.left.kind x.left.int ⟨x.left.text.toArray⟩ x.left.off w6.drew HLK.out).mono ?_
          rintro e wa ⟨rfl, hbwa⟩
          simp only [TokV]
          have kwa : Kt (fun _ => True) w6.drew wa := Kt.below hbwa
          have hSwa := kwa _ _ _ (by assumption) trivial
          refine hK' _ _ (fun _ => hSwa) ?_
          clear hK' K'
          try simp only [Act.put, List.setIfInBounds_toArray, List.set_cons_zero, List.set_cons_succ]
          refine wpAnyT_one 9 rfl (by kernel_rfl) (fun K' hK' => ?_)
          go_simp
          go_at_call 35
          refine (flatTerm_any x.right.kind x.right.int ⟨x.right.text.toArray⟩ x.right.off wa HRK.out).mono ?_
          rintro e wb ⟨rfl, hbwb⟩
          simp only [TokV]
          have kwb : Kt (fun _ => True) wa wb := Kt.below hbwb
          have hSwb := kwb _ _ _ (by assumption) trivial
          refine hK' _ _ (fun _ => hSwb) ?_
          clear hK' K'
          try simp only [Act.put, List.setIfInBounds_toArray, List.set_cons_zero, List.set_cons_succ]
          have kk : Kt (fun _ => True) w6 wb := ((Kt.drew w6).trans kwa).trans kwb
          have HOb := Lib.hid (HO6.out.kt kk trivial)
          have HVb := Lib.hid (LitsV.kt HV6.out kk trivial trivial)
          have HBb := Lib.hid ((HB6.out.trans (drew_below w6 _)).trans ((hbwa.mono HB6.out.size).trans (hbwb.mono (Nat.le_trans HB6.out.size hbwa.size))))
          have hS9 := hSwb
          have hS10 : (wb.alloc (.cells (exV (Gr.flatTerm x.left) ++ exV ⟨11, [], 0, x.op, none⟩ ++ exV (Gr.flatTerm x.right)).toArray 62)).heap[b]? = some (.cells #[.int .i64 3, .string { data := #[] }, .slice ea 0 ec, .int .i64 0, .int .i64 (x.op : Int), .int .i64 (x.left.kind : Int), .int .i64 x.left.int, .string ⟨x.left.text.toArray⟩, .int .i64 (x.left.off : Int), .int .i64 (x.right.kind : Int), .int .i64 x.right.int, .string ⟨x.right.text.toArray⟩, .int .i64 (x.right.off : Int), .int .i64 (x.left.off : Int)] 101) := Kt.alloc (T := fun _ => True) wb _ _ _ _ hS9 trivial
          rw [exV_term x.left HLK.out, exV_term x.right HRK.out] at hS10
          have HNW : Hid ((exV (Gr.flatTerm x.left) ++ exV ⟨11, [], 0, x.op, none⟩ ++ exV (Gr.flatTerm x.right)) = [.int .i64 (tokKind x.left.kind : Int), .string ⟨x.left.text.toArray⟩, .int .i64 x.left.int, .int .i64 0, .int .i64 (x.left.off : Int), .int .i64 0, .int .i64 11, .string noS, .int .i64 0, .int .i64 (x.op : Int), .int .i64 0, .int .i64 (-1), .int .i64 (tokKind x.right.kind : Int), .string ⟨x.right.text.toArray⟩, .int .i64 x.right.int, .int .i64 0, .int .i64 (x.right.off : Int), .int .i64 0]) := Lib.hid (by rw [exV_term x.left HLK.out, exV_term x.right HRK.out]; rfl)
          clear kk hbwa hbwb kwa kwb hS hSwa hSwb
          refine wpAnyT_one 10 rfl (by kernel_rfl) (fun K' hK' => ?_)
          go_simp
          refine hK' _ _ (fun _ => hS10) ?_
          clear hK' K'
          try simp only [Act.put, List.setIfInBounds_toArray, List.set_cons_zero, List.set_cons_succ]
          refine wpAnyT_one 11 rfl (by kernel_rfl) (fun K' hK' => ?_)
          refine step_append_own _ (by rfl) _ _ 36 (by rfl) w.heap.size 62 i62 (.agg #[.int .i64 0, .string noS, .int .i64 0, .int .i64 0, .int .i64 0, .int .i64 0]) 6 56 Tryz.underlying36 bi b0 b1 b2 rfl (by decide) (.slice da es.length dc) es.length (List.flatMap exV es) (by rfl) (World.ownsRow.alloc HOb.out _) ⟨wb.heap.size, 0, none⟩ 3 3 (exV (Gr.flatTerm x.left) ++ exV ⟨11, [], 0, x.op, none⟩ ++ exV (Gr.flatTerm x.right)) (by rfl) (by rfl) (by rw [HNW.out]; exact World.news_of_block (cs := #[.int .i64 (tokKind x.left.kind : Int), .string ⟨x.left.text.toArray⟩, .int .i64 x.left.int, .int .i64 0, .int .i64 (x.left.off : Int), .int .i64 0, .int .i64 11, .string noS, .int .i64 0, .int .i64 (x.op : Int), .int .i64 0, .int .i64 (-1), .int .i64 (tokKind x.right.kind : Int), .string ⟨x.right.text.toArray⟩, .int .i64 x.right.int, .int .i64 0, .int .i64 (x.right.off : Int), .int .i64 0]) (t := 62) (fr := (0, 0)) (heap_alloc_new wb _)) (by rw [show exV (Gr.flatTerm x.left) ++ exV ⟨11, [], 0, x.op, none⟩ ++ exV (Gr.flatTerm x.right) = List.flatMap exV [Gr.flatTerm x.left, ⟨11, [], 0, x.op, none⟩, Gr.flatTerm x.right] by simp]; exact ex_one _) (by unfold maxLen; omega) (by omega) (by have := HBb.out.size; simp; omega) ?_
          intro v5 w5 hown5 hgrow5 _
          have HO5 : Hid (OutV w.heap.size (es ++ [Gr.flatTerm x.left, ⟨11, [], 0, x.op, none⟩, Gr.flatTerm x.right]) w5 v5) := Lib.hid (OutV.more (fs := [Gr.flatTerm x.left, ⟨11, [], 0, x.op, none⟩, Gr.flatTerm x.right]) (by simpa using hown5))
          have HB5 := Lib.hid (grown_below (HBb.out.alloc HBb.out.size _) hgrow5 (World.ownsRow.alloc HOb.out _) (Nat.le_refl _))
          have k5 : Kt (fun t => t ≠ 62) wb w5 := (Kt.alloc wb _).trans (Kt.grown hgrow5 (World.ownsRow.alloc HOb.out _) (by simp))
          have HV5 := Lib.hid (LitsV.kt HVb.out k5 (by decide) (by decide))
          have hS5 := k5 _ _ _ hS9 (by decide)
          obtain ⟨g5, c5, rfl⟩ := Joins.ownsRow_form hown5 (by omega)
          clear hown5 hgrow5 k5 hS9 hS10
          refine hK' _ _ (fun _ => hS5) ?_
          clear hK' K'
          try simp only [Act.put, List.setIfInBounds_toArray, List.set_cons_zero, List.set_cons_succ]
          refine wpAnyT_one 12 rfl (by kernel_rfl) (fun K' hK' => ?_)
          go_simp
          refine hK' _ _ (fun h => absurd rfl h) ?_
          clear hK' K'
          try simp only [Act.put, List.setIfInBounds_toArray, List.set_cons_zero, List.set_cons_succ]
          refine wpAnyT_done (by kernel_rfl) ?_ _
          clear hS5
          go_wp2
          go_roundw
          case rel => exact ⟨i + 1, by go_num, by omega, Lib.hid (by rw [HNN.out, HFL.out]; exact HO5.out), HB5, HV5⟩
          case measure => simp only [intOf]; omega
        · have e0 : decide ((i : Int) > 0) = true := decide_eq_true (by omega)
          have e0' : decide (0 < i) = true := decide_eq_true (by omega)
          have HNN : Hid (Gr.flatBody (ls.take (i + 1)) = (es ++ [Gr.mkE 7]) ++ Gr.flatLit x) := Lib.hid (by rw [HNX.out, if_neg hz])
          clear hz
          go_wp2_with fail
          refine (mark_any 7 _).mono ?_
          rintro e w7 ⟨rfl, hb7⟩
          simp only [markV]
          have k7 : Kt (fun _ => True) w6 w7 := Kt.below hb7
          have HQ7 := Lib.hid (k7 _ _ _ HQ6.out trivial)
          have HO7 := Lib.hid (HO6.out.kt k7 trivial)
          have HV7 := Lib.hid (LitsV.kt HV6.out k7 trivial trivial)
          have HA7 := Lib.hid (k7.own trivial HA6.out)
          have HB7 := Lib.hid (HB6.out.trans (hb7.mono HB6.out.size))
          clear hb7 k7
          go_upto_region 7 with (at_builtin; refine wpList_append_own _ rfl _ _ 36 rfl w.heap.size 62 i62 (.agg #[.int .i64 0, .string noS, .int .i64 0, .int .i64 0, .int .i64 0, .int .i64 0]) 6 56 Tryz.underlying36 bi b0 b1 b2 rfl (by decide) (.slice da es.length dc) es.length (List.flatMap exV es) rfl (World.ownsRow.alloc HO7.out _) ⟨w7.heap.size, 0, none⟩ 1 1 (exV (Gr.mkE 7)) rfl rfl (World.news_of_block (cs := (exV (Gr.mkE 7)).toArray) (t := 62) (fr := (0, 0)) (heap_alloc_new w7 _)) (evV_one _) (by unfold maxLen; omega) (by omega) (by have := HB7.out.size; simp; omega) ?_; intro v8 w8 hown8 hgrow8 hnl8; have HO8 := Lib.hid (OutV.snoc (e := Gr.mkE 7) hown8); have HB8 := Lib.hid (grown_below (HB7.out.alloc HB7.out.size _) hgrow8 (World.ownsRow.alloc HO7.out _) (Nat.le_refl _)); have k8 : Kt (fun t => t ≠ 62) w7 w8 := (Kt.alloc w7 _).trans (Kt.grown hgrow8 (World.ownsRow.alloc HO7.out _) (by simp)); obtain ⟨g8, c8, rfl⟩ := Joins.ownsRow_form hown8 (by omega); have HQ8 := Lib.hid (k8 _ _ _ HQ7.out (by decide)); have HV8 := Lib.hid (LitsV.kt HV7.out k8 (by decide) (by decide)); have HA8 := Lib.hid (k8.own (by decide) HA7.out); clear k8; clear hown8 hgrow8 hnl8)
          obtain ⟨fe, hfe⟩ : ∃ fe, fe = es ++ [Gr.mkE 7] := ⟨_, rfl⟩
          have HFE : Hid (fe.length = es.length + 1) := Lib.hid (by rw [hfe]; simp)
          rw [← hfe] at HO8 HNN
          rw [← HFE.out] at HO8 ⊢
          have hfel : fe.length ≤ 70001 := by have := HFE.out; omega
          clear hfe
          have hz1 := fun v => term_ne x.left.kind (.int .i64 x.left.int) (.string ⟨x.left.text.toArray⟩) (.int .i64 (x.left.off : Int)) v HLK.out
          obtain ⟨p0, p1, p2, p3, p4, p5, p6, p7, p8, p9, p10, p11, p12, p13, pf0, pf1, pf2, pf3, pf4, pf5, pf6, pf7, pf8, pf9, pf10, pf11, pf12, pf13⟩ := row101 HQ8.out
          go_upto_region 22 with fail
          clear hz1 p0 p1 p2 p3 p4 p5 p6 p7 p8 p9 p10 p11 p12 p13 pf0 pf1 pf2 pf3 pf4 pf5 pf6 pf7 pf8 pf9 pf10 pf11 pf12 pf13
          have HQd : Hid (w8.drew.heap[b]? = some (.cells #[.int .i64 3, .string { data := #[] }, .slice ea 0 ec, .int .i64 0, .int .i64 (x.op : Int), .int .i64 (x.left.kind : Int), .int .i64 x.left.int, .string ⟨x.left.text.toArray⟩, .int .i64 (x.left.off : Int), .int .i64 (x.right.kind : Int), .int .i64 x.right.int, .string ⟨x.right.text.toArray⟩, .int .i64 (x.right.off : Int), .int .i64 (x.left.off : Int)] 101)) := Lib.hid HQ8.out
          refine wp_region_T (fun z => z.heap[b]? = some (.cells #[.int .i64 3, .string { data := #[] }, .slice ea 0 ec, .int .i64 0, .int .i64 (x.op : Int), .int .i64 (x.left.kind : Int), .int .i64 x.left.int, .string ⟨x.left.text.toArray⟩, .int .i64 (x.left.off : Int), .int .i64 (x.right.kind : Int), .int .i64 x.right.int, .string ⟨x.right.text.toArray⟩, .int .i64 (x.right.off : Int), .int .i64 (x.left.off : Int)] 101)) 12 (by kernel_rfl) ?_
          have hS := HQd.out
          refine wpAnyT_tk 0 _ ?_ rfl rfl (by kernel_rfl) (fun _ _ _ h => h) (by assumption) (Or.inl ⟨by rfl, fun z hx => ?_⟩) ?_
          rotate_left
          · obtain ⟨m0, m1, m2, m3, m4, m5, m6, m7, m8, m9, m10, m11, m12, m13, mf0, mf1, mf2, mf3, mf4, mf5, mf6, mf7, mf8, mf9, mf10, mf11, mf12, mf13⟩ := row101 hx
            clear hx
            go_simp
            try with_reducible rfl
          try simp only [Act.put, List.setIfInBounds_toArray, List.set_cons_zero, List.set_cons_succ]
          refine wpAnyT_tk 1 _ ?_ rfl rfl (by kernel_rfl) (fun _ _ _ h => h) (by assumption) (Or.inl ⟨by rfl, fun z hx => ?_⟩) ?_
          rotate_left
          · obtain ⟨m0, m1, m2, m3, m4, m5, m6, m7, m8, m9, m10, m11, m12, m13, mf0, mf1, mf2, mf3, mf4, mf5, mf6, mf7, mf8, mf9, mf10, mf11, mf12, mf13⟩ := row101 hx
            clear hx
            go_simp
            try with_reducible rfl
          try simp only [Act.put, List.setIfInBounds_toArray, List.set_cons_zero, List.set_cons_succ]
          refine wpAnyT_tk 2 _ ?_ rfl rfl (by kernel_rfl) (fun _ _ _ h => h) (by assumption) (Or.inl ⟨by rfl, fun z hx => ?_⟩) ?_
          rotate_left
          · obtain ⟨m0, m1, m2, m3, m4, m5, m6, m7, m8, m9, m10, m11, m12, m13, mf0, mf1, mf2, mf3, mf4, mf5, mf6, mf7, mf8, mf9, mf10, mf11, mf12, mf13⟩ := row101 hx
            clear hx
            go_simp
            try with_reducible rfl
          try simp only [Act.put, List.setIfInBounds_toArray, List.set_cons_zero, List.set_cons_succ]
          refine wpAnyT_tk 4 _ ?_ rfl rfl (by kernel_rfl) (fun _ _ _ h => h) (by assumption) (Or.inl ⟨by rfl, fun z hx => ?_⟩) ?_
          rotate_left
          · obtain ⟨m0, m1, m2, m3, m4, m5, m6, m7, m8, m9, m10, m11, m12, m13, mf0, mf1, mf2, mf3, mf4, mf5, mf6, mf7, mf8, mf9, mf10, mf11, mf12, mf13⟩ := row101 hx
            clear hx
            go_simp
            try with_reducible rfl
          try simp only [Act.put, List.setIfInBounds_toArray, List.set_cons_zero, List.set_cons_succ]
          refine wpAnyT_tk 5 _ ?_ rfl rfl (by kernel_rfl) (fun _ _ _ h => h) (by assumption) (Or.inl ⟨by rfl, fun z hx => ?_⟩) ?_
          rotate_left
          · obtain ⟨m0, m1, m2, m3, m4, m5, m6, m7, m8, m9, m10, m11, m12, m13, mf0, mf1, mf2, mf3, mf4, mf5, mf6, mf7, mf8, mf9, mf10, mf11, mf12, mf13⟩ := row101 hx
            clear hx
            go_simp
            try with_reducible rfl
          try simp only [Act.put, List.setIfInBounds_toArray, List.set_cons_zero, List.set_cons_succ]
          refine wpAnyT_tk 6 _ ?_ rfl rfl (by kernel_rfl) (fun _ _ _ h => h) (by assumption) (Or.inl ⟨by rfl, fun z hx => ?_⟩) ?_
          rotate_left
          · obtain ⟨m0, m1, m2, m3, m4, m5, m6, m7, m8, m9, m10, m11, m12, m13, mf0, mf1, mf2, mf3, mf4, mf5, mf6, mf7, mf8, mf9, mf10, mf11, mf12, mf13⟩ := row101 hx
            clear hx
            go_simp
            try with_reducible rfl
          try simp only [Act.put, List.setIfInBounds_toArray, List.set_cons_zero, List.set_cons_succ]
          refine wpAnyT_tk 7 _ ?_ rfl rfl (by kernel_rfl) (fun _ _ _ h => h) (by assumption) (Or.inl ⟨by rfl, fun z hx => ?_⟩) ?_
          rotate_left
          · obtain ⟨m0, m1, m2, m3, m4, m5, m6, m7, m8, m9, m10, m11, m12, m13, mf0, mf1, mf2, mf3, mf4, mf5, mf6, mf7, mf8, mf9, mf10, mf11, mf12, mf13⟩ := row101 hx
            clear hx
            go_simp
            try with_reducible rfl
          try simp only [Act.put, List.setIfInBounds_toArray, List.set_cons_zero, List.set_cons_succ]
          refine wpAnyT_tk 8 _ ?_ rfl rfl (by kernel_rfl) (fun _ _ _ h => h) (by assumption) (Or.inl ⟨by rfl, fun z hx => ?_⟩) ?_
          rotate_left
          · obtain ⟨m0, m1, m2, m3, m4, m5, m6, m7, m8, m9, m10, m11, m12, m13, mf0, mf1, mf2, mf3, mf4, mf5, mf6, mf7, mf8, mf9, mf10, mf11, mf12, mf13⟩ := row101 hx
            clear hx
            go_simp
            try with_reducible rfl
          try simp only [Act.put, List.setIfInBounds_toArray, List.set_cons_zero, List.set_cons_succ]
          refine wpAnyT_one 3 rfl (by kernel_rfl) (fun K' hK' => ?_)
          go_simp
          go_at_call 35
          refine (flatTerm_any x.left.kind x.left.int ⟨x.left.text.toArray⟩ x.left.off w8.drew HLK.out).mono ?_
          rintro e wa ⟨rfl, hbwa⟩
          simp only [TokV]
          have kwa : Kt (fun _ => True) w8.drew wa := Kt.below hbwa
          have hSwa := kwa _ _ _ (by assumption) trivial
          refine hK' _ _ (fun _ => hSwa) ?_
          clear hK' K'
          try simp only [Act.put, List.setIfInBounds_toArray, List.set_cons_zero, List.set_cons_succ]
          refine wpAnyT_one 9 rfl (by kernel_rfl) (fun K' hK' => ?_)
          go_simp
          go_at_call 35
          refine (flatTerm_any x.right.kind x.right.int ⟨x.right.text.toArray⟩ x.right.off wa HRK.out).mono ?_
          rintro e wb ⟨rfl, hbwb⟩
          simp only [TokV]
          have kwb : Kt (fun _ => True) wa wb := Kt.below hbwb
          have hSwb := kwb _ _ _ (by assumption) trivial
          refine hK' _ _ (fun _ => hSwb) ?_
          clear hK' K'
          try simp only [Act.put, List.setIfInBounds_toArray, List.set_cons_zero, List.set_cons_succ]
          have kk : Kt (fun _ => True) w8 wb := ((Kt.drew w8).trans kwa).trans kwb
          have HOb := Lib.hid (HO8.out.kt kk trivial)
          have HVb := Lib.hid (LitsV.kt HV8.out kk trivial trivial)
          have HBb := Lib.hid ((HB8.out.trans (drew_below w8 _)).trans ((hbwa.mono HB8.out.size).trans (hbwb.mono (Nat.le_trans HB8.out.size hbwa.size))))
          have hS9 := hSwb
          have hS10 : (wb.alloc (.cells (exV (Gr.flatTerm x.left) ++ exV ⟨11, [], 0, x.op, none⟩ ++ exV (Gr.flatTerm x.right)).toArray 62)).heap[b]? = some (.cells #[.int .i64 3, .string { data := #[] }, .slice ea 0 ec, .int .i64 0, .int .i64 (x.op : Int), .int .i64 (x.left.kind : Int), .int .i64 x.left.int, .string ⟨x.left.text.toArray⟩, .int .i64 (x.left.off : Int), .int .i64 (x.right.kind : Int), .int .i64 x.right.int, .string ⟨x.right.text.toArray⟩, .int .i64 (x.right.off : Int), .int .i64 (x.left.off : Int)] 101) := Kt.alloc (T := fun _ => True) wb _ _ _ _ hS9 trivial
          rw [exV_term x.left HLK.out, exV_term x.right HRK.out] at hS10
          have HNW : Hid ((exV (Gr.flatTerm x.left) ++ exV ⟨11, [], 0, x.op, none⟩ ++ exV (Gr.flatTerm x.right)) = [.int .i64 (tokKind x.left.kind : Int), .string ⟨x.left.text.toArray⟩, .int .i64 x.left.int, .int .i64 0, .int .i64 (x.left.off : Int), .int .i64 0, .int .i64 11, .string noS, .int .i64 0, .int .i64 (x.op : Int), .int .i64 0, .int .i64 (-1), .int .i64 (tokKind x.right.kind : Int), .string ⟨x.right.text.toArray⟩, .int .i64 x.right.int, .int .i64 0, .int .i64 (x.right.off : Int), .int .i64 0]) := Lib.hid (by rw [exV_term x.left HLK.out, exV_term x.right HRK.out]; rfl)
          clear kk hbwa hbwb kwa kwb hS hSwa hSwb
          refine wpAnyT_one 10 rfl (by kernel_rfl) (fun K' hK' => ?_)
          go_simp
          refine hK' _ _ (fun _ => hS10) ?_
          clear hK' K'
          try simp only [Act.put, List.setIfInBounds_toArray, List.set_cons_zero, List.set_cons_succ]
          refine wpAnyT_one 11 rfl (by kernel_rfl) (fun K' hK' => ?_)
          refine step_append_own _ (by rfl) _ _ 36 (by rfl) w.heap.size 62 i62 (.agg #[.int .i64 0, .string noS, .int .i64 0, .int .i64 0, .int .i64 0, .int .i64 0]) 6 56 Tryz.underlying36 bi b0 b1 b2 rfl (by decide) (.slice (some ⟨g8, 0, none⟩) fe.length c8) fe.length (List.flatMap exV fe) (by rfl) (World.ownsRow.alloc HOb.out _) ⟨wb.heap.size, 0, none⟩ 3 3 (exV (Gr.flatTerm x.left) ++ exV ⟨11, [], 0, x.op, none⟩ ++ exV (Gr.flatTerm x.right)) (by rfl) (by rfl) (by rw [HNW.out]; exact World.news_of_block (cs := #[.int .i64 (tokKind x.left.kind : Int), .string ⟨x.left.text.toArray⟩, .int .i64 x.left.int, .int .i64 0, .int .i64 (x.left.off : Int), .int .i64 0, .int .i64 11, .string noS, .int .i64 0, .int .i64 (x.op : Int), .int .i64 0, .int .i64 (-1), .int .i64 (tokKind x.right.kind : Int), .string ⟨x.right.text.toArray⟩, .int .i64 x.right.int, .int .i64 0, .int .i64 (x.right.off : Int), .int .i64 0]) (t := 62) (fr := (0, 0)) (heap_alloc_new wb _)) (by rw [show exV (Gr.flatTerm x.left) ++ exV ⟨11, [], 0, x.op, none⟩ ++ exV (Gr.flatTerm x.right) = List.flatMap exV [Gr.flatTerm x.left, ⟨11, [], 0, x.op, none⟩, Gr.flatTerm x.right] by simp]; exact ex_one _) (by unfold maxLen; omega) (by omega) (by have := HBb.out.size; simp; omega) ?_
          intro v5 w5 hown5 hgrow5 _
          have HO5 : Hid (OutV w.heap.size (fe ++ [Gr.flatTerm x.left, ⟨11, [], 0, x.op, none⟩, Gr.flatTerm x.right]) w5 v5) := Lib.hid (OutV.more (fs := [Gr.flatTerm x.left, ⟨11, [], 0, x.op, none⟩, Gr.flatTerm x.right]) (by simpa using hown5))
          have HB5 := Lib.hid (grown_below (HBb.out.alloc HBb.out.size _) hgrow5 (World.ownsRow.alloc HOb.out _) (Nat.le_refl _))
          have k5 : Kt (fun t => t ≠ 62) wb w5 := (Kt.alloc wb _).trans (Kt.grown hgrow5 (World.ownsRow.alloc HOb.out _) (by simp))
          have HV5 := Lib.hid (LitsV.kt HVb.out k5 (by decide) (by decide))
          have hS5 := k5 _ _ _ hS9 (by decide)
          obtain ⟨g5, c5, rfl⟩ := Joins.ownsRow_form hown5 (by omega)
          clear hown5 hgrow5 k5 hS9 hS10
          refine hK' _ _ (fun _ => hS5) ?_
          clear hK' K'
          try simp only [Act.put, List.setIfInBounds_toArray, List.set_cons_zero, List.set_cons_succ]
          refine wpAnyT_one 12 rfl (by kernel_rfl) (fun K' hK' => ?_)
          go_simp
          refine hK' _ _ (fun h => absurd rfl h) ?_
          clear hK' K'
          try simp only [Act.put, List.setIfInBounds_toArray, List.set_cons_zero, List.set_cons_succ]
          refine wpAnyT_done (by kernel_rfl) ?_ _
          clear hS5
          go_wp2
          go_roundw
          case rel => exact ⟨i + 1, by go_num, by omega, Lib.hid (by rw [HNN.out, HFL.out]; exact HO5.out), HB5, HV5⟩
          case measure => simp only [intOf]; omega
    · have hie : i = n := by omega
      subst hie
      have hnl : ¬ (i : Int) < (i : Int) := by omega
      have hnd : decide ((i : Int) < (i : Int)) = false := decide_eq_false hnl
      have HE : Hid (Gr.flatBody ls = es) := Lib.hid (by rw [HES.out, List.take_of_length_le (by rw [HN.out]; exact Nat.le_refl _)])
      go_wp2
      go_ret2
      refine ⟨_, rfl, ?_, HB.out⟩
      rw [HE.out]; exact HO.out
end Go.Proofs.YtncdjkdpoinfaaaGreatDoor
