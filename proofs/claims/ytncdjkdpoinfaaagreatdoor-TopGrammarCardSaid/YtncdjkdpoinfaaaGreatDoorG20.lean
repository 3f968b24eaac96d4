/-
  Texts of this seat, one behind the other: W45. Conditions: those that each of them states.
-/
import Derived.Test.YtncdjkdpoinfaaaGreatDoorG19
/-
  The walk of edicttop.flatAtom, at an atom that parse handed back. Conditions: those that the theorem states.
-/
namespace Go.Proofs.YtncdjkdpoinfaaaGreatDoor
open Go.RowKit Go.Shelf Pl

def atE (x : Gr.Atm) (i : Nat) : List Gr.Ex := ⟨1, x.pred, 0, 0, some x.off⟩ :: Gr.argsPre (x.args.take i)
theorem atE_len (x : Gr.Atm) (i : Nat) : (atE x i).length ≤ 2 * x.args.length + 1 := by
  simp only [atE, List.length_cons, Gr.argsPre_len, List.length_take]
  omega
theorem atE_next (x : Gr.Atm) (i : Nat) (hi : i < x.args.length) : atE x (i + 1) = atE x i ++ [Gr.mkE (if i = 0 then 5 else 7)] ++ [Gr.flatTerm x.args[i]] := by
  simp only [atE, Gr.take_snoc hi, Gr.argsPre_snoc]
  have : (x.args.take i = []) ↔ i = 0 := by
    constructor
    · intro h
      have := congrArg List.length h
      simp only [List.length_take, List.length_nil] at this
      omega
    · intro h; rw [h]; rfl
  by_cases h : i = 0
  · simp [h]
  · rw [if_neg (fun e => h (this.1 e)), if_neg h]; simp
theorem atE_end (x : Gr.Atm) : Gr.flatAtom x = atE x x.args.length ++ (if x.args = [] then [] else [Gr.mkE 6]) := by
  simp only [Gr.flatAtom, atE, List.take_length, Gr.flatArgs_pre]
  split
  · rename_i h; rw [h]; rfl
  · simp

set_option maxRecDepth 100000 in
set_option maxHeartbeats 6400000 in
theorem flatAtom_any (x : Gr.Atm) (sl : Value) (D : Nat) (w : World) (hok : Gr.AtmOk x) (ho : w.ownsRow D 59 4 sl x.args.length (flatX x.args)) (hn : x.args.length ≤ 70000) :
    Calls Tryz.prog 13 #[.agg (atmL x sl).toArray] w (OutIs w (Gr.flatAtom x)) := by
  obtain ⟨i62, bi, b0, b1, b2⟩ := info_parts Tryz.info62
  have HOK := Lib.hid hok
  obtain ⟨n, hn0⟩ : ∃ n, n = x.args.length := ⟨_, rfl⟩
  rw [← hn0] at ho hn
  have HN := Lib.hid hn0
  clear hn0 hok
  obtain ⟨sa, sc, rfl⟩ : ∃ sa sc, sl = .slice sa n sc := by
    rcases Joins.ownsRow_forms ho with ⟨h5, h6⟩ | ⟨g, cap, h5⟩
    · exact ⟨none, 0, by rw [h5]; rw [h6]⟩
    · exact ⟨_, cap, h5⟩
  simp only [atmL]
  obtain ⟨w1, hw1⟩ : ∃ w1, w1 = w.alloc (.cells #[.string ⟨x.pred.toArray⟩, .slice sa n sc, .int .i64 (x.off : Int)] 32) := ⟨_, rfl⟩
  have hx1 : w1.heap[w.heap.size]? = some (.cells #[.string ⟨x.pred.toArray⟩, .slice sa n sc, .int .i64 (x.off : Int)] 32) := by rw [hw1]; exact heap_alloc_new _ _
  have HX1 := Lib.hid hx1
  have HB1 : Hid (Below w.heap.size w w1) := Lib.hid (by rw [hw1]; exact up_alloc _ _)
  have HA1 : Hid (w1.ownsRow D 59 4 (.slice sa n sc) n (flatX x.args)) := Lib.hid (by rw [hw1]; exact ho.alloc _)
  have HZ1 : Hid (w1.heap.size = w.heap.size + 1) := Lib.hid (by rw [hw1]; simp)
  have HW1 := Lib.hid hw1
  obtain ⟨s0, s1, s2, g0, g1, g2⟩ := row32 hx1
  clear ho hw1 hx1
  go_enter Tryz.func13, Tryz.ntmps13
  go_upto_region 1 with fail
  rw [← HW1.out]
  go_upto_region 2 with fail
  obtain ⟨w2, hw2⟩ : ∃ w2, w2 = w1.alloc (.cells #[.int .i64 1, .string ⟨x.pred.toArray⟩, .int .i64 0, .int .i64 0, .int .i64 (x.off : Int), .int .i64 0] 62) := ⟨_, rfl⟩
  have HO2 : Hid (OutV w.heap.size (atE x 0) w2 (.slice (some ⟨w1.heap.size, 0, none⟩) 1 1)) := Lib.hid (by
    rw [hw2]
    refine ⟨rfl, .inr ⟨w1.heap.size, 1, _, rfl, HB1.out.size, heap_alloc_new _ _, Nat.le_refl _, by unfold maxLen; omega, rfl, rfl⟩⟩)
  have k2 : Kt (fun _ => True) w1 w2 := by rw [hw2]; exact Kt.alloc _ _
  have HX2 := Lib.hid (k2 _ _ _ HX1.out trivial)
  have HA2 := Lib.hid (k2.own trivial HA1.out)
  have HB2 : Hid (Below w.heap.size w w2) := Lib.hid (by rw [hw2]; exact HB1.out.alloc HB1.out.size _)
  have HW2 := Lib.hid hw2
  clear hw2 k2 s0 s1 s2 g0 g1 g2
  rw [← HW2.out]
  obtain ⟨s0, s1, s2, g0, g1, g2⟩ := row32 HX2.out
  go_wp2
  clear s0 s1 s2 g0 g1 g2
  go_loopw [15, 3] (fun k d wr => ∃ i : Nat, k = .int .i64 (i : Int) ∧ i ≤ n ∧ Hid (OutV w.heap.size (atE x i) wr d) ∧ Hid (Below w.heap.size w wr) ∧ Hid (wr.heap[w.heap.size]? = some (.cells #[.string ⟨x.pred.toArray⟩, .slice sa n sc, .int .i64 (x.off : Int)] 32)) ∧ Hid (wr.ownsRow D 59 4 (.slice sa n sc) n (flatX x.args))) (fun k _ _ => n - (intOf k).toNat)
  case atStart => exact ⟨0, rfl, Nat.zero_le _, HO2, HB2, HX2, HA2⟩
  case round =>
    obtain ⟨i, rfl, hi, HO, HB, HX, HA⟩ := hrel
    clear HO2 HB2 HX2 HA2
    have hel := atE_len x i
    rw [← HN.out] at hel
    obtain ⟨es, hes⟩ : ∃ es, es = atE x i := ⟨_, rfl⟩
    rw [← hes] at HO hel
    have HES := Lib.hid hes
    clear hes
    obtain ⟨da, dc, rfl⟩ := HO.out.form
    by_cases h1 : i < n
    · have iI : (i : Int) < (n : Int) := by omega
      have i0 : (0 : Int) ≤ (i : Int) := by omega
      have hwi : IntKind.i64.wrap ((i : Int) + 1) = (i : Int) + 1 := by rw [IntKind.wrap_i64]; omega
      have HI := Lib.hid (show i < x.args.length by have := HN.out; omega)
      obtain ⟨g, rfl⟩ : ∃ g, sa = some ⟨g, 0, none⟩ := by
        obtain ⟨g, cap, h5⟩ := Joins.ownsRow_form HA.out (by omega)
        injection h5 with h6 _ _
        exact ⟨g, h6⟩
      have how := HA.out
      have hn3 := HN.out
      rw [hn3] at how
      obtain ⟨k0, k1, k2, k3⟩ := trm_cells how HI.out
      clear how hn3
      obtain ⟨y, hy⟩ : ∃ y, y = x.args[i]'HI.out := ⟨_, rfl⟩
      rw [← hy] at k0 k1 k2 k3
      have HYK := Lib.hid (show Gr.TrmOk y by rw [hy]; exact HOK.out _ (List.getElem_mem _))
      have HNX : Hid (atE x (i + 1) = es ++ [Gr.mkE (if i = 0 then 5 else 7)] ++ [Gr.flatTerm y]) := Lib.hid (by rw [hy, HES.out]; exact atE_next x i HI.out)
      clear hy
      go_upto_region 5 with fail
      obtain ⟨w6, hw6⟩ : ∃ w6, w6 = wr.alloc (.cells #[.int .i64 (y.kind : Int), .int .i64 y.int, .string ⟨y.text.toArray⟩, .int .i64 (y.off : Int)] 59) := ⟨_, rfl⟩
      rw [← hw6]
      have q6 : w6.heap[wr.heap.size]? = some (.cells #[.int .i64 (y.kind : Int), .int .i64 y.int, .string ⟨y.text.toArray⟩, .int .i64 (y.off : Int)] 59) := by rw [hw6]; exact heap_alloc_new _ _
      have k6 : Kt (fun _ => True) wr w6 := by rw [hw6]; exact Kt.alloc _ _
      have HQ6 := Lib.hid q6
      have HO6 := Lib.hid (HO.out.kt k6 trivial)
      have HX6 := Lib.hid (k6 _ _ _ HX.out trivial)
      have HA6 := Lib.hid (k6.own trivial HA.out)
      have HB6 : Hid (Below w.heap.size w w6) := Lib.hid (by rw [hw6]; exact HB.out.alloc HB.out.size _)
      obtain ⟨b, hb0⟩ : ∃ b, b = wr.heap.size := ⟨_, rfl⟩
      rw [← hb0] at q6 HQ6 ⊢
      clear hw6 k6 k0 k1 k2 k3 hb0 q6
      by_cases hz : i = 0
      · have e0 : ((i : Int) == 0) = true := by simp; omega
        go_wp2_with fail
        refine (mark_any 5 _).mono ?_
        rintro e w7 ⟨rfl, hb7⟩
        simp only [markV]
        have k7 : Kt (fun _ => True) w6 w7 := Kt.below hb7
        have HQ7 := Lib.hid (k7 _ _ _ HQ6.out trivial)
        have HO7 := Lib.hid (HO6.out.kt k7 trivial)
        have HX7 := Lib.hid (k7 _ _ _ HX6.out trivial)
        have HA7 := Lib.hid (k7.own trivial HA6.out)
        have HB7 := Lib.hid (HB6.out.trans (hb7.mono HB6.out.size))
        clear hb7 k7
        go_wp2_with (at_builtin; refine wpList_append_own _ rfl _ _ 36 rfl w.heap.size 62 i62 (.agg #[.int .i64 0, .string noS, .int .i64 0, .int .i64 0, .int .i64 0, .int .i64 0]) 6 56 Tryz.underlying36 bi b0 b1 b2 rfl (by decide) (.slice da es.length dc) es.length (List.flatMap exV es) rfl (World.ownsRow.alloc HO7.out _) ⟨w7.heap.size, 0, none⟩ 1 1 (exV (Gr.mkE 5)) rfl rfl (World.news_of_block (cs := (exV (Gr.mkE 5)).toArray) (t := 62) (fr := (0, 0)) (heap_alloc_new w7 _)) (evV_one _) (by unfold maxLen; omega) (by omega) (by have := HB7.out.size; simp; omega) ?_; intro v8 w8 hown8 hgrow8 hnl8; have HO8 := Lib.hid (OutV.snoc (e := Gr.mkE 5) hown8); have HB8 := Lib.hid (grown_below (HB7.out.alloc HB7.out.size _) hgrow8 (World.ownsRow.alloc HO7.out _) (Nat.le_refl _)); have k8 : Kt (fun t => t ≠ 62) w7 w8 := (Kt.alloc w7 _).trans (Kt.grown hgrow8 (World.ownsRow.alloc HO7.out _) (by simp)); obtain ⟨g8, c8, rfl⟩ := Joins.ownsRow_form hown8 (by omega); have q8 := k8 _ _ _ HQ7.out (by decide); have HX8 := Lib.hid (k8 _ _ _ HX7.out (by decide)); have HA8 := Lib.hid (k8.own (by decide) HA7.out); obtain ⟨r0, r1, r2, r3, rf0, rf1, rf2, rf3⟩ := row4 q8; clear k8 q8; clear hown8 hgrow8 hnl8)
        refine (flatTerm_any y.kind y.int ⟨y.text.toArray⟩ y.off w8 HYK.out).mono ?_
        rintro e w9 ⟨rfl, hb9⟩
        simp only [TokV]
        have k9 : Kt (fun _ => True) w8 w9 := Kt.below hb9
        have HO9 := Lib.hid (HO8.out.kt k9 trivial)
        have HX9 := Lib.hid (k9 _ _ _ HX8.out trivial)
        have HA9 := Lib.hid (k9.own trivial HA8.out)
        have HB9 := Lib.hid (HB8.out.trans (hb9.mono HB8.out.size))
        clear hb9 k9 r0 r1 r2 r3 rf0 rf1 rf2 rf3
        have HNN : Hid (atE x (i + 1) = (es ++ [Gr.mkE 5]) ++ [Gr.flatTerm y]) := Lib.hid (by rw [HNX.out]; simp [hz])
        obtain ⟨fs, hfs⟩ : ∃ fs, fs = es ++ [Gr.mkE 5] := ⟨_, rfl⟩
        have HFL : Hid (fs.length = es.length + 1) := Lib.hid (by rw [hfs]; simp)
        rw [← hfs] at HO9 HNN
        have hfl : fs.length ≤ 2 * n + 2 := by have := HFL.out; omega
        rw [← HFL.out] at HO9 ⊢
        clear hfs
        have HEX := Lib.hid (exV_term y HYK.out)
        go_wp2_with (at_builtin; refine wpList_append_own _ rfl _ _ 36 rfl w.heap.size 62 i62 (.agg #[.int .i64 0, .string noS, .int .i64 0, .int .i64 0, .int .i64 0, .int .i64 0]) 6 56 Tryz.underlying36 bi b0 b1 b2 rfl (by decide) (.slice (some ⟨g8, 0, none⟩) fs.length c8) fs.length (List.flatMap exV fs) rfl (World.ownsRow.alloc HO9.out _) ⟨w9.heap.size, 0, none⟩ 1 1 (exV (Gr.flatTerm y)) rfl (by rw [HEX.out]; rfl) (by rw [HEX.out]; exact World.news_of_block (cs := #[.int .i64 (tokKind y.kind : Int), .string ⟨y.text.toArray⟩, .int .i64 y.int, .int .i64 0, .int .i64 (y.off : Int), .int .i64 0]) (t := 62) (fr := (0, 0)) (heap_alloc_new w9 _)) (evV_one _) (by unfold maxLen; omega) (by omega) (by have := HB9.out.size; simp; omega) ?_; intro v5 w5 hown5 hgrow5 hnl5; have HO5 := Lib.hid (OutV.snoc (e := Gr.flatTerm y) hown5); have HB5 := Lib.hid (grown_below (HB9.out.alloc HB9.out.size _) hgrow5 (World.ownsRow.alloc HO9.out _) (Nat.le_refl _)); have k5 : Kt (fun t => t ≠ 62) w9 w5 := (Kt.alloc w9 _).trans (Kt.grown hgrow5 (World.ownsRow.alloc HO9.out _) (by simp)); obtain ⟨g5, c5, rfl⟩ := Joins.ownsRow_form hown5 (by omega); have HX5 := Lib.hid (k5 _ _ _ HX9.out (by decide)); have HA5 := Lib.hid (k5.own (by decide) HA9.out); clear k5; clear hown5 hgrow5 hnl5)
        go_roundw
        case rel => exact ⟨i + 1, by go_num, by omega, Lib.hid (by rw [HNN.out]; exact HO5.out), HB5, HX5, HA5⟩
        case measure => simp only [intOf]; omega
      · have e0 : ((i : Int) == 0) = false := by simp; omega
        go_wp2_with fail
        refine (mark_any 7 _).mono ?_
        rintro e w7 ⟨rfl, hb7⟩
        simp only [markV]
        have k7 : Kt (fun _ => True) w6 w7 := Kt.below hb7
        have HQ7 := Lib.hid (k7 _ _ _ HQ6.out trivial)
        have HO7 := Lib.hid (HO6.out.kt k7 trivial)
        have HX7 := Lib.hid (k7 _ _ _ HX6.out trivial)
        have HA7 := Lib.hid (k7.own trivial HA6.out)
        have HB7 := Lib.hid (HB6.out.trans (hb7.mono HB6.out.size))
        clear hb7 k7
        go_wp2_with (at_builtin; refine wpList_append_own _ rfl _ _ 36 rfl w.heap.size 62 i62 (.agg #[.int .i64 0, .string noS, .int .i64 0, .int .i64 0, .int .i64 0, .int .i64 0]) 6 56 Tryz.underlying36 bi b0 b1 b2 rfl (by decide) (.slice da es.length dc) es.length (List.flatMap exV es) rfl (World.ownsRow.alloc HO7.out _) ⟨w7.heap.size, 0, none⟩ 1 1 (exV (Gr.mkE 7)) rfl rfl (World.news_of_block (cs := (exV (Gr.mkE 7)).toArray) (t := 62) (fr := (0, 0)) (heap_alloc_new w7 _)) (evV_one _) (by unfold maxLen; omega) (by omega) (by have := HB7.out.size; simp; omega) ?_; intro v8 w8 hown8 hgrow8 hnl8; have HO8 := Lib.hid (OutV.snoc (e := Gr.mkE 7) hown8); have HB8 := Lib.hid (grown_below (HB7.out.alloc HB7.out.size _) hgrow8 (World.ownsRow.alloc HO7.out _) (Nat.le_refl _)); have k8 : Kt (fun t => t ≠ 62) w7 w8 := (Kt.alloc w7 _).trans (Kt.grown hgrow8 (World.ownsRow.alloc HO7.out _) (by simp)); obtain ⟨g8, c8, rfl⟩ := Joins.ownsRow_form hown8 (by omega); have q8 := k8 _ _ _ HQ7.out (by decide); have HX8 := Lib.hid (k8 _ _ _ HX7.out (by decide)); have HA8 := Lib.hid (k8.own (by decide) HA7.out); obtain ⟨r0, r1, r2, r3, rf0, rf1, rf2, rf3⟩ := row4 q8; clear k8 q8; clear hown8 hgrow8 hnl8)
        refine (flatTerm_any y.kind y.int ⟨y.text.toArray⟩ y.off w8 HYK.out).mono ?_
        rintro e w9 ⟨rfl, hb9⟩
        simp only [TokV]
        have k9 : Kt (fun _ => True) w8 w9 := Kt.below hb9
        have HO9 := Lib.hid (HO8.out.kt k9 trivial)
        have HX9 := Lib.hid (k9 _ _ _ HX8.out trivial)
        have HA9 := Lib.hid (k9.own trivial HA8.out)
        have HB9 := Lib.hid (HB8.out.trans (hb9.mono HB8.out.size))
        clear hb9 k9 r0 r1 r2 r3 rf0 rf1 rf2 rf3
        have HNN : Hid (atE x (i + 1) = (es ++ [Gr.mkE 7]) ++ [Gr.flatTerm y]) := Lib.hid (by rw [HNX.out]; simp [hz])
        obtain ⟨fs, hfs⟩ : ∃ fs, fs = es ++ [Gr.mkE 7] := ⟨_, rfl⟩
        have HFL : Hid (fs.length = es.length + 1) := Lib.hid (by rw [hfs]; simp)
        rw [← hfs] at HO9 HNN
        have hfl : fs.length ≤ 2 * n + 2 := by have := HFL.out; omega
        rw [← HFL.out] at HO9 ⊢
        clear hfs
        have HEX := Lib.hid (exV_term y HYK.out)
        go_wp2_with (at_builtin; refine wpList_append_own _ rfl _ _ 36 rfl w.heap.size 62 i62 (.agg #[.int .i64 0, .string noS, .int .i64 0, .int .i64 0, .int .i64 0, .int .i64 0]) 6 56 Tryz.underlying36 bi b0 b1 b2 rfl (by decide) (.slice (some ⟨g8, 0, none⟩) fs.length c8) fs.length (List.flatMap exV fs) rfl (World.ownsRow.alloc HO9.out _) ⟨w9.heap.size, 0, none⟩ 1 1 (exV (Gr.flatTerm y)) rfl (by rw [HEX.out]; rfl) (by rw [HEX.out]; exact World.news_of_block (cs := #[.int .i64 (tokKind y.kind : Int), .string ⟨y.text.toArray⟩, .int .i64 y.int, .int .i64 0, .int .i64 (y.off : Int), .int .i64 0]) (t := 62) (fr := (0, 0)) (heap_alloc_new w9 _)) (evV_one _) (by unfold maxLen; omega) (by omega) (by have := HB9.out.size; simp; omega) ?_; intro v5 w5 hown5 hgrow5 hnl5; have HO5 := Lib.hid (OutV.snoc (e := Gr.flatTerm y) hown5); have HB5 := Lib.hid (grown_below (HB9.out.alloc HB9.out.size _) hgrow5 (World.ownsRow.alloc HO9.out _) (Nat.le_refl _)); have k5 : Kt (fun t => t ≠ 62) w9 w5 := (Kt.alloc w9 _).trans (Kt.grown hgrow5 (World.ownsRow.alloc HO9.out _) (by simp)); obtain ⟨g5, c5, rfl⟩ := Joins.ownsRow_form hown5 (by omega); have HX5 := Lib.hid (k5 _ _ _ HX9.out (by decide)); have HA5 := Lib.hid (k5.own (by decide) HA9.out); clear k5; clear hown5 hgrow5 hnl5)
        go_roundw
        case rel => exact ⟨i + 1, by go_num, by omega, Lib.hid (by rw [HNN.out]; exact HO5.out), HB5, HX5, HA5⟩
        case measure => simp only [intOf]; omega
    · have hie : i = n := by omega
      subst hie
      have hnl : ¬ (i : Int) < (i : Int) := by omega
      have hnd : decide ((i : Int) < (i : Int)) = false := decide_eq_false hnl
      obtain ⟨s0, s1, s2, g0, g1, g2⟩ := row32 HX.out
      by_cases hz : i = 0
      · have hgz : decide ((i : Int) > 0) = false := decide_eq_false (by omega)
        have hgz2 : decide (0 < i) = false := decide_eq_false (by omega)
        have HE : Hid (Gr.flatAtom x = es) := Lib.hid (by
          rw [atE_end, ← HN.out, ← HES.out, if_pos (List.eq_nil_of_length_eq_zero (by rw [← HN.out]; exact hz))]; simp)
        clear hz h1 hi
        go_wp2
        go_ret
        refine ⟨_, rfl, ?_, HB.out⟩
        rw [HE.out]; exact HO.out
      · have hgz : decide ((i : Int) > 0) = true := decide_eq_true (by omega)
        have hgz2 : decide (0 < i) = true := decide_eq_true (by omega)
        have HE : Hid (Gr.flatAtom x = es ++ [Gr.mkE 6]) := Lib.hid (by
          rw [atE_end, ← HN.out, ← HES.out, if_neg (fun e => hz (by rw [HN.out, e]; rfl))])
        clear hz h1 hi
        go_wp2_with fail
        refine (mark_any 6 _).mono ?_
        rintro e w7 ⟨rfl, hb7⟩
        simp only [markV]
        have HO7 := Lib.hid (HO.out.kt (Kt.below (T := fun _ => True) hb7) trivial)
        have HB7 := Lib.hid (HB.out.trans (hb7.mono HB.out.size))
        clear hb7 s0 s1 s2 g0 g1 g2
        go_wp2_with (at_builtin; refine wpList_append_own _ rfl _ _ 36 rfl w.heap.size 62 i62 (.agg #[.int .i64 0, .string noS, .int .i64 0, .int .i64 0, .int .i64 0, .int .i64 0]) 6 56 Tryz.underlying36 bi b0 b1 b2 rfl (by decide) (.slice da es.length dc) es.length (List.flatMap exV es) rfl (World.ownsRow.alloc HO7.out _) ⟨w7.heap.size, 0, none⟩ 1 1 (exV (Gr.mkE 6)) rfl rfl (World.news_of_block (cs := (exV (Gr.mkE 6)).toArray) (t := 62) (fr := (0, 0)) (heap_alloc_new w7 _)) (evV_one _) (by unfold maxLen; omega) (by omega) (by have := HB7.out.size; simp; omega) ?_; intro v8 w8 hown8 hgrow8 hnl8; have HO8 := Lib.hid (OutV.snoc (e := Gr.mkE 6) hown8); have HB8 := Lib.hid (grown_below (HB7.out.alloc HB7.out.size _) hgrow8 (World.ownsRow.alloc HO7.out _) (Nat.le_refl _)); have k8 : Kt (fun t => t ≠ 62) w7 w8 := (Kt.alloc w7 _).trans (Kt.grown hgrow8 (World.ownsRow.alloc HO7.out _) (by simp)); obtain ⟨g8, c8, rfl⟩ := Joins.ownsRow_form hown8 (by omega); clear hown8 hgrow8 hnl8)
        go_ret
        refine ⟨_, rfl, ?_, HB8.out⟩
        rw [HE.out]; exact HO8.out
end Go.Proofs.YtncdjkdpoinfaaaGreatDoor
