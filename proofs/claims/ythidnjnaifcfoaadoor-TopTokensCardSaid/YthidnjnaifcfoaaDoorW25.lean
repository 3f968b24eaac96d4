/-
  The walk of edicttop.TopTokens: it returns true. Condition: the variables hold what the program's text lays.
-/
import Derived.Test.YthidnjnaifcfoaaDoorW24
namespace Go.Proofs.YthidnjnaifcfoaaDoor
open Go.RowKit Go.Shelf Pl

/-- What scanned hands back, whatever the text. -/
theorem scanned_all (s : ByteArray) (B : Nat) (w : World) (hG : Gl B w) :
    Calls Tryd.prog 5 #[.string s] w fun e w' => ∃ va vc ts fc fo, e = .returned (.tuple #[.slice va (List.length (α := Tk) ts) vc, .agg #[.int .i64 ((fc : Nat) : Int), .int .i64 0, .int .i64 ((fo : Nat) : Int)], .bool true]) ∧ w'.ownsRow w.heap.size 32 6 (.slice va ts.length vc) ts.length (flatT ts) ∧
      ((s.size ≤ 65536 ∧ Sc (L s) 0 ts (fc, fo)) ∨ (ts = [] ∧ fc = 1)) ∧ Below w.heap.size w w' := by
  by_cases hs : s.size ≤ 65536
  · have hsc := scan_Sc (L s) (s.size + 1) 0 (by rw [L_len]; omega) (Nat.zero_le _)
    rw [List.drop_zero] at hsc
    refine (scanned_any s _ _ B w hs hG hsc).mono ?_
    rintro e w' ⟨v, he, ho, hb⟩
    rcases Joins.ownsRow_forms ho with ⟨h5, h6⟩ | ⟨g, cap, h5⟩
    · refine ⟨none, 0, _, _, _, ?_, ?_, .inl ⟨hs, hsc⟩, hb⟩
      · rw [he, h5, h6]; rfl
      · rw [h5] at ho; rw [h6] at ho ⊢; exact ho
    · refine ⟨some ⟨g, 0, none⟩, cap, _, _, _, ?_, ?_, .inl ⟨hs, hsc⟩, hb⟩
      · rw [he, h5]; rfl
      · rw [h5] at ho; exact ho
  · refine (scanned_long s w hs).mono ?_
    rintro e w' ⟨he, hb⟩
    exact ⟨none, 0, [], 1, 0, he, World.ownsRow_nil _ _ _ _, .inr ⟨rfl, rfl⟩, hb⟩

set_option maxRecDepth 100000 in
set_option maxHeartbeats 3200000 in
theorem tokens_row (s : ByteArray) (B : Nat) (w : World) (hG : Gl B w) :
    Calls Tryd.prog 3 #[.string s] w fun e w' => e = .returned (.bool true) ∧ Below w.heap.size w w' := by
  have hBz := hG.lt
  obtain ⟨tk, htk, hfx⟩ := fixed_sc
  have HFX := Lib.hid hfx
  have HG := Lib.hid hG
  clear hfx hG
  go_enter Tryd.func3, Tryd.ntmps3
  go_wp2_with fail
  refine (scan_any fixedS B tk (10, 35) _ (by decide) HFX.out HG.out).mono ?_
  rintro e w1 ⟨v, he, ho, hb⟩
  have he2 : e = .returned (.tuple #[v, .agg #[.int .i64 10, .int .i64 0, .int .i64 35]]) := he
  subst he2
  obtain ⟨g0, c0, rfl⟩ := Joins.ownsRow_form ho (by omega)
  have h1z := hb.size
  have HB1 := Lib.hid hb
  rw [htk]
  clear he ho hb htk
  go_upto_region 4 with fail
  obtain ⟨w2, hw2⟩ : ∃ w2, w2 = w1.alloc (.cells #[.int .i64 10, .int .i64 0, .int .i64 35] 25) := ⟨_, rfl⟩
  rw [← hw2]
  have HB2 : Hid (Below w.heap.size w w2) := Lib.hid (by rw [hw2]; exact HB1.out.alloc h1z _)
  have HF2 : Hid (w2.heap[w1.heap.size]? = some (.cells #[.int .i64 10, .int .i64 0, .int .i64 35] 25)) := Lib.hid (by rw [hw2]; exact heap_alloc_new _ _)
  have h2z : w2.heap.size = w1.heap.size + 1 := by rw [hw2]; simp
  clear hw2
  go_wp2_with fail
  refine (scanned_all s B _ (HG.out.below (HB2.out.mono hBz))).mono ?_
  rintro e w3 ⟨va, vc, ts, fc, fo, rfl, ho, hcase, hb⟩
  have h3z := hb.size
  have q3 : w3.heap[w1.heap.size]? = some (.cells #[.int .i64 10, .int .i64 0, .int .i64 35] 25) := by rw [hb.block _ (by omega)]; exact HF2.out
  obtain ⟨x0, x1, x2, xf0, xf1, xf2⟩ := row3 q3
  have HC := Lib.hid hcase
  have HO3 := Lib.hid ho
  have HB3 : Hid (Below w.heap.size w w3) := Lib.hid (HB2.out.trans (hb.mono (by omega)))
  have HQ3 := Lib.hid q3
  clear hcase ho hb q3
  go_upto_region 7 with fail
  obtain ⟨w4, hw4⟩ : ∃ w4, w4 = ((w3.setCell ⟨w1.heap.size, 0, none⟩ (.int .i64 (fc : Int))).setCell ⟨w1.heap.size, 1, none⟩ (.int .i64 0)).setCell ⟨w1.heap.size, 2, none⟩ (.int .i64 (fo : Int)) := ⟨_, rfl⟩
  rw [← hw4]
  have HQ4 : Hid (w4.heap[w1.heap.size]? = some (.cells #[.int .i64 (fc : Int), .int .i64 0, .int .i64 (fo : Int)] 25)) := Lib.hid (by rw [hw4]; exact three_set HQ3.out)
  have HO4 : Hid (w4.ownsRow w2.heap.size 32 6 (.slice va ts.length vc) ts.length (flatT ts)) := Lib.hid (own_oth HO3.out (fun k c hc => by
    have hk : k ≠ w1.heap.size := fun e => by rw [e, HQ3.out] at hc; simp at hc
    rw [hw4, Below.heap_setCell _ _ _ _ hk, Below.heap_setCell _ _ _ _ hk, Below.heap_setCell _ _ _ _ hk]))
  have HB4 : Hid (Below w.heap.size w w4) := Lib.hid (by rw [hw4]; exact ((HB3.out.setCell h1z _).setCell h1z _).setCell h1z _)
  have h4z : w4.heap.size = w3.heap.size := by rw [hw4]; simp [World.setCell]
  clear hw4 x0 x1 x2 xf0 xf1 xf2
  go_wp2
  go_loopw [6] (fun k wr => ∃ i : Nat, k = .int .i64 (i : Int) ∧ 1 ≤ i ∧ Hid (Below w4.heap.size w4 wr)) (fun k _ => ts.length - (intOf k).toNat)
  case atStart => exact ⟨1, rfl, Nat.le_refl _, Lib.hid (Below.refl _ _)⟩
  case round =>
    obtain ⟨i, rfl, hi, HB⟩ := hrel
    by_cases h1 : i < ts.length
    · obtain ⟨hs, hsc⟩ : s.size ≤ 65536 ∧ Sc (L s) 0 ts (fc, fo) := by
        rcases HC.out with h5 | h5
        · exact h5
        · rw [h5.1] at h1; simp at h1
      have htl := sc_len hsc (Nat.zero_le _)
      rw [L_len] at htl
      obtain ⟨g, rfl⟩ : ∃ g, va = some ⟨g, 0, none⟩ := by
        obtain ⟨g, cap, h5⟩ := Joins.ownsRow_form HO4.out (by omega)
        injection h5 with h6 _ _
        exact ⟨g, h6⟩
      obtain ⟨j, hj⟩ : ∃ j, i = j + 1 := ⟨i - 1, by omega⟩
      have hj1 : j + 1 < ts.length := by omega
      obtain ⟨g1, g2, g3⟩ := blank_at hsc hj1
      have hor : Hid (wr.ownsRow w2.heap.size 32 6 (.slice (some ⟨g, 0, none⟩) ts.length vc) ts.length (flatT ts)) := Lib.hid (own_oth HO4.out (fun k c hk => HB.out.block k (Array.getElem?_eq_some_iff.1 hk).1))
      have c5 := (tok_cells hor.out (show j < ts.length by omega)).2.2.2.2.2
      have c4 := (tok_cells hor.out hj1).2.2.2.2.1
      obtain ⟨a, ha⟩ : ∃ a, a = (ts[j]'(by omega)).fin := ⟨_, rfl⟩
      obtain ⟨b, hb⟩ : ∃ b, b = ts[j + 1].off := ⟨_, rfl⟩
      rw [← ha] at c5 g1 g3
      rw [← hb] at g1 g2 g3
      have c4' : wr.cell? ⟨g, i * 6 + 4, none⟩ = some (.int .i64 (b : Int)) := by rw [hb, hj]; exact c4
      have hwj : IntKind.i64.wrap ((i : Int) - 1) = (j : Int) := by rw [IntKind.wrap_i64]; omega
      have hwi : IntKind.i64.wrap ((i : Int) + 1) = (i : Int) + 1 := by rw [IntKind.wrap_i64]; omega
      have iI : (i : Int) < (ts.length : Int) := by omega
      have i0 : (0 : Int) ≤ (i : Int) := by omega
      have jI : (j : Int) < (ts.length : Int) := by omega
      have j0 : (0 : Int) ≤ (j : Int) := by omega
      have G3 := Lib.hid g3
      have G12 := Lib.hid (And.intro g1 g2)
      have HHS := Lib.hid hs
      clear c4 ha hb hj hsc htl g1 g2 g3 hs hj1
      go_upto_region 10 with fail
      go_still_tail 12, (by kernel_rfl)
      change wpList _ _ _ _ _ wr.drew
      generalize hW : wr.drew = wN
      have HBN : Hid (Below w4.heap.size w4 wN) := Lib.hid (by rw [← hW]; exact HB.out.drew)
      clear hW c5 c4'
      go_wp2_with fail
      refine (blank_any s a b _ HHS.out G12.out.1 G12.out.2 G3.out).mono ?_
      rintro e w5 ⟨rfl, hb5⟩
      have HB5 : Hid (Below w4.heap.size w4 w5) := Lib.hid (HBN.out.trans (hb5.mono HBN.out.size))
      clear hb5
      go_wp2
      go_roundw
      case rel => exact ⟨i + 1, by go_num, by omega, HB5⟩
      case measure => simp only [intOf]; omega
    · have iI : ¬ (i : Int) < (ts.length : Int) := by omega
      have q4 : wr.heap[w1.heap.size]? = some (.cells #[.int .i64 (fc : Int), .int .i64 0, .int .i64 (fo : Int)] 25) := by rw [HB.out.block _ (by omega)]; exact HQ4.out
      obtain ⟨x0, x1, x2, _, _, _⟩ := row3 q4
      have HBF : Hid (Below w.heap.size w wr) := Lib.hid (HB4.out.trans (HB.out.mono (by omega)))
      by_cases hf0 : fc = 0
      · have ef : ((fc : Int) != 0) = false := by simp; omega
        obtain ⟨hs, hsc⟩ : s.size ≤ 65536 ∧ Sc (L s) 0 ts (fc, fo) := by
          rcases HC.out with h5 | h5
          · exact h5
          · omega
        have htl := sc_len hsc (Nat.zero_le _)
        rw [L_len] at htl
        have HSC := Lib.hid hsc
        have HHS := Lib.hid hs
        have HBR := Lib.hid HB.out
        clear hf0 hsc hs q4 HB
        obtain ⟨wA, hwA⟩ : ∃ wA, wA = wr := ⟨_, rfl⟩
        rw [← hwA] at HBF HBR x0 x1 x2 ⊢
        clear hwA
        go_wp2
        go_loopw [7] (fun k wr2 => ∃ i : Nat, k = .int .i64 (i : Int) ∧ i ≤ ts.length ∧ Hid (Below w4.heap.size w4 wr2)) (fun k _ => ts.length - (intOf k).toNat)
        case atStart => exact ⟨0, rfl, Nat.zero_le _, HBR⟩
        case round =>
          obtain ⟨q, rfl, hqt, HB⟩ := hrel
          have hwrz := HB.out.size
          clear x0 x1 x2 iI
          by_cases h2 : q + 1 < ts.length
          · obtain ⟨g, rfl⟩ : ∃ g, va = some ⟨g, 0, none⟩ := by
              obtain ⟨g, cap, h5⟩ := Joins.ownsRow_form HO4.out (by omega)
              injection h5 with h6 _ _
              exact ⟨g, h6⟩
            obtain ⟨g1, g2, en, g3⟩ := alone_at HSC.out h2
            have hor : Hid (wr.ownsRow w2.heap.size 32 6 (.slice (some ⟨g, 0, none⟩) ts.length vc) ts.length (flatT ts)) := Lib.hid (own_oth HO4.out (fun k c hk => HB.out.block k (Array.getElem?_eq_some_iff.1 hk).1))
            obtain ⟨t, ht⟩ : ∃ t, t = ts[q]'(by omega) := ⟨_, rfl⟩
            have hcs := tok_cells hor.out (show q < ts.length by omega)
            rw [← ht] at hcs g1 g2 g3
            obtain ⟨kd, hkd⟩ : ∃ kd, kd = t.kind := ⟨_, rfl⟩
            obtain ⟨tx, htx⟩ : ∃ tx : ByteArray, tx = ⟨t.text.toArray⟩ := ⟨_, rfl⟩
            obtain ⟨iv, hiv⟩ : ∃ iv, iv = t.int := ⟨_, rfl⟩
            obtain ⟨ov, hov⟩ : ∃ ov, ov = t.op := ⟨_, rfl⟩
            obtain ⟨a, ha⟩ : ∃ a, a = t.off := ⟨_, rfl⟩
            obtain ⟨b, hb⟩ : ∃ b, b = t.fin := ⟨_, rfl⟩
            rw [← ha] at g1 g3 hcs
            rw [← hb] at g1 g2 g3 hcs
            rw [← hkd, ← htx, ← hiv, ← hov] at hcs
            have HTX := Lib.hid htx
            have HKD := Lib.hid hkd
            have HIV := Lib.hid hiv
            have HOV := Lib.hid hov
            obtain ⟨c0, c1, c2, c3, c4, c5⟩ := hcs
            have HCS := Lib.hid (And.intro c0 (And.intro c1 (And.intro c2 c3)))
            have hgq : g < wr.heap.size := (World.ownsRow.lt hor.out g rfl).2
            have a0 : (0 : Int) ≤ (a : Int) := by omega
            have ab : (a : Int) ≤ (b : Int) := by omega
            have bs : (b : Int) ≤ (s.size : Int) := by omega
            have hwq : IntKind.i64.wrap ((q : Int) + 1) = (q : Int) + 1 := by have := HHS.out; rw [IntKind.wrap_i64]; omega
            have qI : (q : Int) + 1 < (ts.length : Int) := by omega
            have qI2 : (q : Int) < (ts.length : Int) := by omega
            have q0 : (0 : Int) ≤ (q : Int) := by omega
            obtain ⟨z, hz⟩ : ∃ z, z = s.extract a b := ⟨_, rfl⟩
            have hzs : z.size ≤ 65536 := by have := HHS.out; rw [← L_len, hz, cut_drop, List.length_take, List.length_drop, L_len]; omega
            rw [← hz] at g3
            have G3 := Lib.hid g3
            have HZ := Lib.hid hz
            clear hkd htx hiv hov ha hb ht g1 g2 g3 hz c0 c1 c2 c3
            go_upto_region 17 with fail
            obtain ⟨ts1, hts1⟩ : ∃ ts1 : List Tk, ts1 = [⟨t.kind, t.text, t.int, t.op, 0, en⟩, ⟨0, [], 0, 0, en, en⟩] := ⟨_, rfl⟩
            rw [← hts1] at G3
            have HT1 := Lib.hid hts1
            have HSCN : Hid (∀ wq : World, Below w4.heap.size w4 wq → Calls Tryd.prog 4 #[.string z] wq fun e w' => ∃ v, e = .returned (.tuple #[v, .agg #[.int .i64 0, .int .i64 0, .int .i64 0]]) ∧ w'.ownsRow wq.heap.size 32 6 v ts1.length (flatT ts1) ∧ Below wq.heap.size wq w') :=
              Lib.hid (fun wq hq => scan_any z B _ (0, 0) wq hzs G3.out (HG.out.below ((HB4.out.trans (hq.mono HB4.out.size)).mono hBz)))
            clear hts1
            obtain ⟨wB, hwB⟩ : ∃ wB, wB = wr.alloc (.cells #[.int .i64 0, .int .i64 0, .int .i64 0] 25) := ⟨_, rfl⟩
            have HWB := Lib.hid hwB
            have HBD : Hid (Below w4.heap.size w4 wB.drew) := Lib.hid (by rw [hwB]; exact (HB.out.alloc hwrz _).drew)
            have hBz : wB.heap.size = wr.heap.size + 1 := by rw [hwB]; simp
            have HBD1 : Hid (Below w4.heap.size w4 wr.drew) := Lib.hid HB.out.drew
            have b4 : wB.cell? ⟨g, q * 6 + 4, none⟩ = some (.int .i64 (a : Int)) := by rw [hwB, ((Below.refl wr.heap.size wr).alloc (Nat.le_refl _) _).cell (p := ⟨g, q * 6 + 4, none⟩) hgq]; exact c4
            have b5 : wB.cell? ⟨g, q * 6 + 5, none⟩ = some (.int .i64 (b : Int)) := by rw [hwB, ((Below.refl wr.heap.size wr).alloc (Nat.le_refl _) _).cell (p := ⟨g, q * 6 + 5, none⟩) hgq]; exact c5
            have hYB : wB.heap[wr.heap.size]? = some (.cells #[.int .i64 0, .int .i64 0, .int .i64 0] 25) := by rw [hwB]; exact heap_alloc_new _ _
            have HYB := Lib.hid hYB
            have hne5 : g ≠ wr.heap.size := by omega
            have hgB : g < wB.heap.size := by omega
            have hyB : wr.heap.size < wB.heap.size := by omega
            clear hYB
            have B4 := Lib.hid b4
            have B5 := Lib.hid b5
            rw [hwB] at b4 b5
            clear hwB
            go_region_held3 (fun w' => w'.cell? ⟨g, q * 6 + 4, none⟩ = some (.int .i64 (a : Int)) ∧ w'.cell? ⟨g, q * 6 + 5, none⟩ = some (.int .i64 (b : Int)))
              (first | exact ⟨c4, c5⟩ | exact ⟨b4, b5⟩ | exact ⟨d4, d5⟩ | exact ⟨e4 _, e5 _⟩ | exact ⟨cell_three d4 hne5, cell_three d5 hne5⟩ | exact ⟨cell_three (e4 _) hne6, cell_three (e5 _) hne6⟩)
              (first
                | (go_at_call 4; rw [← HZ.out]; refine (HSCN.out wr.drew HBD1.out).mono ?_; rintro e w5 ⟨v5, rfl, ho5, hb5⟩; have d4 : w5.cell? ⟨g, q * 6 + 4, none⟩ = some (.int .i64 (a : Int)) := (by rw [hb5.cell (p := ⟨g, q * 6 + 4, none⟩) (show g < wr.drew.heap.size from hgq)]; exact c4); have d5 : w5.cell? ⟨g, q * 6 + 5, none⟩ = some (.int .i64 (b : Int)) := (by rw [hb5.cell (p := ⟨g, q * 6 + 5, none⟩) (show g < wr.drew.heap.size from hgq)]; exact c5); have e4 : ∀ o : Obj, (w5.alloc o).cell? ⟨g, q * 6 + 4, none⟩ = some (.int .i64 (a : Int)) := (fun o => by rw [((Below.refl w5.heap.size w5).alloc (Nat.le_refl _) o).cell (p := ⟨g, q * 6 + 4, none⟩) (show g < w5.heap.size from Nat.lt_of_lt_of_le hgq hb5.size)]; exact d4); have e5 : ∀ o : Obj, (w5.alloc o).cell? ⟨g, q * 6 + 5, none⟩ = some (.int .i64 (b : Int)) := (fun o => by rw [((Below.refl w5.heap.size w5).alloc (Nat.le_refl _) o).cell (p := ⟨g, q * 6 + 5, none⟩) (show g < w5.heap.size from Nat.lt_of_lt_of_le hgq hb5.size)]; exact d5); have hne6 : g ≠ w5.heap.size := (by have := Nat.lt_of_lt_of_le hgq hb5.size; omega); have HO5 := Lib.hid ho5; have HB5 := Lib.hid hb5; clear ho5 hb5)
                | (go_at_call 4; rw [← HZ.out]; rw [← HWB.out]; refine (HSCN.out _ HBD.out).mono ?_; rintro e w5 ⟨v5, rfl, ho5, hb5⟩; have d4 : w5.cell? ⟨g, q * 6 + 4, none⟩ = some (.int .i64 (a : Int)) := (by rw [hb5.cell (p := ⟨g, q * 6 + 4, none⟩) (show g < wB.drew.heap.size from hgB)]; exact B4.out); have d5 : w5.cell? ⟨g, q * 6 + 5, none⟩ = some (.int .i64 (b : Int)) := (by rw [hb5.cell (p := ⟨g, q * 6 + 5, none⟩) (show g < wB.drew.heap.size from hgB)]; exact B5.out); have hq9 : w5.heap[wr.heap.size]? = some (.cells #[.int .i64 0, .int .i64 0, .int .i64 0] 25) := (by rw [hb5.block _ (show wr.heap.size < wB.drew.heap.size from hyB)]; exact HYB.out); have hn9 := row3 hq9; have r0 := hn9.1; have r1 := hn9.2.1; have r2 := hn9.2.2.1; have rf0 := hn9.2.2.2.1; have rf1 := hn9.2.2.2.2.1; have rf2 := hn9.2.2.2.2.2; have HQ9 := Lib.hid hq9; have HO5 := Lib.hid ho5; have HB5 := Lib.hid hb5; clear ho5 hb5 hq9 hn9))
            all_goals
              obtain ⟨gO, cO, rfl⟩ := Joins.ownsRow_form HO5.out (by rw [HT1.out]; simp)
              first
                | (obtain ⟨wF, hwF⟩ : ∃ wF, wF = w5.alloc (.cells #[.int .i64 0, .int .i64 0, .int .i64 0] 25) := ⟨_, rfl⟩
                   rw [← hwF]
                   obtain ⟨Y, hY⟩ : ∃ Y, Y = w5.heap.size := ⟨_, rfl⟩
                   have HWR : Hid (Below wr.drew.heap.size wr.drew w5) := HB5
                   have HFY : Hid (wF.heap[Y]? = some (.cells #[.int .i64 0, .int .i64 0, .int .i64 0] 25)) := Lib.hid (by rw [hwF, hY]; exact heap_alloc_new _ _)
                   have HOO : Hid (wF.ownsRow wr.drew.heap.size 32 6 (.slice (some ⟨gO, 0, none⟩) ts1.length cO) ts1.length (flatT ts1)) := Lib.hid (by rw [hwF]; exact World.ownsRow.alloc HO5.out _)
                   have HWF : Hid (Below wr.drew.heap.size wr.drew wF) := Lib.hid (by rw [hwF]; exact HWR.out.alloc HWR.out.size _)
                   rw [← hY]
                   clear hwF hY)
                | (obtain ⟨wF, hwF⟩ : ∃ wF, wF = ((w5.setCell ⟨wr.heap.size, 0, none⟩ (.int .i64 0)).setCell ⟨wr.heap.size, 1, none⟩ (.int .i64 0)).setCell ⟨wr.heap.size, 2, none⟩ (.int .i64 0) := ⟨_, rfl⟩
                   rw [← hwF]
                   obtain ⟨Y, hY⟩ : ∃ Y, Y = wr.heap.size := ⟨_, rfl⟩
                   have HBr : Below wr.drew.heap.size wr.drew wB.drew := by rw [HWB.out]; exact (up_alloc wr.drew _)
                   have HWR : Hid (Below wr.drew.heap.size wr.drew w5) := Lib.hid (HBr.trans (HB5.out.mono HBr.size))
                   have HFY : Hid (wF.heap[Y]? = some (.cells #[.int .i64 0, .int .i64 0, .int .i64 0] 25)) := Lib.hid (by rw [hwF, hY]; exact three_set HQ9.out)
                   have HOO : Hid (wF.ownsRow wr.drew.heap.size 32 6 (.slice (some ⟨gO, 0, none⟩) ts1.length cO) ts1.length (flatT ts1)) := Lib.hid (by
                     refine own_oth (World.ownsRow.mono HO5.out HBr.size) (fun k c hc => ?_)
                     have hk : k ≠ wr.heap.size := fun e => by rw [e, HQ9.out] at hc; simp at hc
                     rw [hwF, Below.heap_setCell _ _ _ _ hk, Below.heap_setCell _ _ _ _ hk, Below.heap_setCell _ _ _ _ hk])
                   have HWF : Hid (Below wr.drew.heap.size wr.drew wF) := Lib.hid (by rw [hwF]; exact ((HWR.out.setCell (Nat.le_refl _) _).setCell (Nat.le_refl _) _).setCell (Nat.le_refl _) _)
                   rw [← hY]
                   clear hwF hY HBr)
              have hcell : ∀ j v, wr.cell? ⟨g, j, none⟩ = some v → wF.cell? ⟨g, j, none⟩ = some v := fun j v h => by
                rw [HWF.out.cell (p := ⟨g, j, none⟩) (show g < wr.drew.heap.size from hgq)]; exact h
              obtain ⟨u0, u1, u2, u3⟩ := HCS.out
              have y0 := hcell _ _ u0
              have y1 := hcell _ _ u1
              have y2 := hcell _ _ u2
              have y3 := hcell _ _ u3
              have hl1 : ts1.length = 2 := by rw [HT1.out]; rfl
              have hz1 : 0 < ts1.length := by omega
              have hcs := tok_cells HOO.out hz1
              have hk1 : (ts1[0]'hz1).kind = kd ∧ (⟨(ts1[0]'hz1).text.toArray⟩ : ByteArray) = tx ∧ (ts1[0]'hz1).int = iv ∧ (ts1[0]'hz1).op = ov := by
                have h5 : ts1[0]'hz1 = ⟨t.kind, t.text, t.int, t.op, 0, en⟩ := by
                  have h6 := HT1.out
                  simp only [h6]
                  rfl
                rw [h5]
                exact ⟨HKD.out.symm, HTX.out.symm, HIV.out.symm, HOV.out.symm⟩
              rw [hk1.1, hk1.2.1, hk1.2.2.1, hk1.2.2.2] at hcs
              have o0 : wF.cell? ⟨gO, 0, none⟩ = some (.int .i64 (kd : Int)) := by have := hcs.1; simpa using this
              have o1 : wF.cell? ⟨gO, 1, none⟩ = some (.string tx) := by have := hcs.2.1; simpa using this
              have o2 : wF.cell? ⟨gO, 2, none⟩ = some (.int .i64 iv) := by have := hcs.2.2.1; simpa using this
              have o3 : wF.cell? ⟨gO, 3, none⟩ = some (.int .i64 (ov : Int)) := by have := hcs.2.2.2.1; simpa using this
              have fy0 : wF.cell? ⟨Y, 0, none⟩ = some (.int .i64 0) := (row3 HFY.out).1
              have l0 : (0 : Int) < (ts1.length : Int) := by omega
              have l2 : ((ts1.length : Int) != 2) = false := by simp; omega
              have HBF2 : Hid (Below w4.heap.size w4 wF) := Lib.hid (HBD1.out.trans (HWF.out.mono (show w4.heap.size ≤ wr.drew.heap.size from hwrz)))
              clear hcell u0 u1 u2 u3 hcs hk1 hl1 hz1
              go_wp2_with fail
              go_quiet (fail)
              go_wp2
              go_roundw
              case rel => exact ⟨q + 1, by go_num, by omega, Lib.hid (below_drewN HBF2.out)⟩
              case measure => simp only [intOf]; omega
          · have iI2 : ¬ (q : Int) + 1 < (ts.length : Int) := by omega
            have hwq : IntKind.i64.wrap ((q : Int) + 1) = (q : Int) + 1 := by have := HHS.out; rw [IntKind.wrap_i64]; omega
            have HBF2 : Hid (Below w.heap.size w wr) := Lib.hid (HB4.out.trans (HB.out.mono HB4.out.size))
            go_wp2
            go_ret
            exact ⟨rfl, HBF2.out⟩
      · have ef : ((fc : Int) != 0) = true := by simp; omega
        clear hf0
        go_wp2
        go_ret
        exact ⟨rfl, HBF.out⟩
end Go.Proofs.YthidnjnaifcfoaaDoor
