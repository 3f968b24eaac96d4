/-
  Texts of this seat, one behind the other: W49, W50. Conditions: those that each of them states.
-/
import Derived.Test.YtncdjkdpoinfaaaGreatDoorG22
/-
  The walk of edicttop.judged. Conditions: the tokens lie in memory.
-/
namespace Go.Proofs.YtncdjkdpoinfaaaGreatDoor
open Go.RowKit Go.Shelf Pl

theorem step_any (q : Bool) (st k mode : Nat) (w : World) (hm : ((mode : Int) == 2) = q) :
    Calls Tryz.prog 34 #[.int .i64 (st : Int), .int .i64 (k : Int), .int .i64 (mode : Int)] w fun e w' => e = .returned (.int .i64 (stepV st k q)) ∧ w' = w := by
  cases q
  · exact step_any_false st k mode w hm
  · exact step_any_true st k mode w hm
def beginN (m : Nat) : Nat := if m = 1 then 30 else if m = 2 then 5 else if m = 3 then 40 else 0
theorem beginN_v (m : Nat) : beginsV (m : Int) = (beginN m : Int) := by
  unfold beginsV beginN
  repeat' split
  all_goals first | rfl | omega

set_option maxRecDepth 100000 in
set_option maxHeartbeats 6400000 in
theorem judged_any (ts : List Tk) (f : Gr.Flt) (u : Value) (D mode : Nat) (q : Bool) (w : World) (hu : w.ownsRow D 62 6 u ts.length (flatT ts)) (hm : ((mode : Int) == 2) = q) (hn : ts.length ≤ 70000) :
    Calls Tryz.prog 12 #[u, .agg #[.int .i64 (f.1 : Int), .int .i64 0, .int .i64 (f.2 : Int)], .int .i64 (mode : Int)] w fun e w' => e = .returned (FaultV (Gr.J f q (beginN mode) 0 0 0 ts).1 (Gr.J f q (beginN mode) 0 0 0 ts).2) ∧ Below w.heap.size w w' := by
  obtain ⟨V, hV⟩ : ∃ V, V = Gr.J f q (beginN mode) 0 0 0 ts := ⟨_, rfl⟩
  rw [← hV]
  have HV := Lib.hid hV
  have HM := Lib.hid hm
  obtain ⟨S0, hS0⟩ : ∃ S0, S0 = beginN mode := ⟨_, rfl⟩
  have HS0 := Lib.hid hS0
  obtain ⟨n, hn0⟩ : ∃ n, n = ts.length := ⟨_, rfl⟩
  obtain ⟨ua, uc, rfl⟩ : ∃ ua uc, u = .slice ua n uc := by
    rcases Joins.ownsRow_forms hu with ⟨h5, h6⟩ | ⟨g, cap, h5⟩
    · exact ⟨none, 0, by rw [h5, hn0, h6]⟩
    · exact ⟨_, cap, by rw [h5, hn0]⟩
  have HU := Lib.hid hu
  have HN := Lib.hid hn0
  rw [← hn0] at hn
  obtain ⟨w1, hw1⟩ : ∃ w1, w1 = (w.alloc (.cells #[.int .i64 (f.1 : Int), .int .i64 0, .int .i64 (f.2 : Int)] 27)).alloc (.cells #[.int .i64 0, .int .i64 0, .int .i64 0] 27) := ⟨_, rfl⟩
  have HB0 : Hid (Below w.heap.size w w1) := Lib.hid (by rw [hw1]; exact (up_alloc _ _).alloc (by simp) _)
  have HF0 : Hid (w1.heap[w.heap.size]? = some (.cells #[.int .i64 (f.1 : Int), .int .i64 0, .int .i64 (f.2 : Int)] 27)) := Lib.hid (by rw [hw1]; exact (two_heap _ _ rfl).1)
  have HR0 : Hid (w1.heap[w.heap.size + 1]? = some (.cells #[.int .i64 0, .int .i64 0, .int .i64 0] 27)) := Lib.hid (by rw [hw1]; exact (two_heap _ _ rfl).2)
  have HW1 := Lib.hid hw1
  clear hn0 hu hV hm hS0 hw1
  go_enter Tryz.func12, Tryz.ntmps12
  go_upto_region 1 with fail
  rw [← HW1.out]
  go_wp2_with fail
  refine (begins_any (mode : Int) _).mono ?_
  rintro e w' ⟨rfl, hq⟩
  rw [hq, beginN_v, ← HS0.out]
  clear hq w'
  have HJ0 : Hid (Gr.J f q S0 0 0 0 (ts.drop 0) = V) := Lib.hid (by rw [List.drop_zero, HS0.out]; exact HV.out.symm)
  go_wp2
  go_loopw [18, 7, 8, 9, 10] (fun k s c l m wr => ∃ i S C Ln N : Nat, k = .int .i64 (i : Int) ∧ s = .int .i64 (S : Int) ∧ c = .int .i64 (C : Int) ∧ l = .int .i64 (Ln : Int) ∧ m = .int .i64 (N : Int) ∧ i ≤ n ∧ C ≤ i ∧ Ln ≤ i ∧ N ≤ i ∧ Hid (Gr.J f q S C Ln N (ts.drop i) = V) ∧ Hid (Below w.heap.size w wr) ∧ Hid (wr.heap[w.heap.size]? = some (.cells #[.int .i64 (f.1 : Int), .int .i64 0, .int .i64 (f.2 : Int)] 27)) ∧ Hid (wr.heap[w.heap.size + 1]? = some (.cells #[.int .i64 0, .int .i64 0, .int .i64 0] 27))) (fun k _ _ _ _ _ => n - (intOf k).toNat)
  case atStart => exact ⟨0, S0, 0, 0, 0, rfl, rfl, rfl, rfl, rfl, Nat.zero_le _, Nat.zero_le _, Nat.zero_le _, Nat.zero_le _, HJ0, HB0, HF0, HR0⟩
  case round =>
    obtain ⟨i, S, C, Ln, N, rfl, rfl, rfl, rfl, rfl, hi, hCi, hLi, hNi, HJ, HB, HF, HR⟩ := hrel
    clear HJ0 HB0 HF0 HR0
    by_cases h1 : i < n
    · have iI : (i : Int) < (n : Int) := by omega
      have i0 : (0 : Int) ≤ (i : Int) := by omega
      have hwi : IntKind.i64.wrap ((i : Int) + 1) = (i : Int) + 1 := by rw [IntKind.wrap_i64]; omega
      have hwC : IntKind.i64.wrap ((C : Int) + 1) = (C : Int) + 1 := by rw [IntKind.wrap_i64]; omega
      have hwL : IntKind.i64.wrap ((Ln : Int) + 1) = (Ln : Int) + 1 := by rw [IntKind.wrap_i64]; omega
      have hwN : IntKind.i64.wrap ((N : Int) + 1) = (N : Int) + 1 := by rw [IntKind.wrap_i64]; omega
      have h1t : i < ts.length := by have := HN.out; omega
      have hu := (Kt.below (T := fun _ => True) HB.out).own trivial HU.out
      obtain ⟨g, rfl⟩ : ∃ g, ua = some ⟨g, 0, none⟩ := by
        obtain ⟨g, cap, h5⟩ := Joins.ownsRow_form hu (by omega)
        injection h5 with h6 _ _
        exact ⟨g, h6⟩
      rw [HN.out] at hu
      obtain ⟨c0, c1, c2, c3, c4, c5⟩ := tok_cells hu h1t
      obtain ⟨t, ht⟩ : ∃ t, t = ts[i] := ⟨_, rfl⟩
      rw [← ht] at c0 c1 c2 c3 c4 c5
      have HJ2 : Hid (Gr.J f q S C Ln N (t :: ts.drop (i + 1)) = V) := Lib.hid (by rw [ht, ← List.drop_eq_getElem_cons h1t]; exact HJ.out)
      obtain ⟨r, hr⟩ : ∃ r, r = ts.drop (i + 1) := ⟨_, rfl⟩
      rw [← hr] at HJ2
      have HRR := Lib.hid hr
      clear ht hu hr h1t
      go_upto_region 6 with fail
      obtain ⟨w6, hw6⟩ : ∃ w6, w6 = wr.alloc (.cells #[.int .i64 (t.kind : Int), .string ⟨t.text.toArray⟩, .int .i64 t.int, .int .i64 (t.op : Int), .int .i64 (t.off : Int), .int .i64 (t.fin : Int)] 62) := ⟨_, rfl⟩
      rw [← hw6]
      have q6 : w6.heap[wr.heap.size]? = some (.cells #[.int .i64 (t.kind : Int), .string ⟨t.text.toArray⟩, .int .i64 t.int, .int .i64 (t.op : Int), .int .i64 (t.off : Int), .int .i64 (t.fin : Int)] 62) := by rw [hw6]; exact heap_alloc_new _ _
      have k6 : Kt (fun _ => True) wr w6 := by rw [hw6]; exact Kt.alloc _ _
      have HF6 := Lib.hid (k6 _ _ _ HF.out trivial)
      have hr6 := k6 _ _ _ HR.out trivial
      have HR6 := Lib.hid hr6
      have HB6 : Hid (Below w.heap.size w w6) := Lib.hid (by rw [hw6]; exact HB.out.alloc HB.out.size _)
      obtain ⟨b, hb0⟩ : ∃ b, b = wr.heap.size := ⟨_, rfl⟩
      rw [← hb0] at q6 ⊢
      clear hw6 k6 hb0 c0 c1 c2 c3 c4 c5
      obtain ⟨c0, c1, c2, c3, c4, c5, cf0, cf1, cf2, cf3, cf4, cf5⟩ := row6 q6
      obtain ⟨y0, y1, y2, yf0, yf1, yf2⟩ := row3 hr6
      clear q6 hr6
      go_wp2_with fail
      refine (step_any q S t.kind mode _ HM.out).mono ?_
      rintro e w7 ⟨rfl, hq7⟩
      rw [hq7]
      clear hq7 w7
      unfold stepV
      cases hst : Gr.step S t.kind q with
      | none =>
        simp only [stV]
        have HVR : Hid (V = Gr.ref t) := Lib.hid (by rw [← HJ2.out]; simp only [Gr.J, hst])
        clear hst
        have el : decide ((-1 : Int) < 0) = true := by decide
        by_cases hk : t.kind = 0
        · have ek : ((t.kind : Int) == 0) = true := by simp; omega
          have HVV : Hid (V = (21, t.off)) := Lib.hid (by rw [HVR.out]; simp [Gr.ref, hk])
          clear hk
          have HH := Lib.hid (three_set (x := .int .i64 21) (y := .int .i64 0) (z := .int .i64 (t.off : Int)) HR6.out)
          have HBZ := Lib.hid (((HB6.out.setCell (p := ⟨w.heap.size + 1, 0, none⟩) (by simp) (.int .i64 21)).setCell (p := ⟨w.heap.size + 1, 1, none⟩) (by simp) (.int .i64 0)).setCell (p := ⟨w.heap.size + 1, 2, none⟩) (by simp) (.int .i64 (t.off : Int)))
          go_wp2
          refine bodyPost_ret (results_cell_row rfl _ _ (w.heap.size + 1) 27 #[.int .i64 21, .int .i64 0, .int .i64 (t.off : Int)] (0, 0) _ rfl HH.out Tryz.underlying27 rfl Tryz.size25) rfl ?_
          exact ⟨by rw [HVV.out]; rfl, HBZ.out⟩
        · have ek : ((t.kind : Int) == 0) = false := by simp; omega
          have HVV : Hid (V = (20, t.off)) := Lib.hid (by rw [HVR.out]; simp [Gr.ref, hk])
          clear hk
          have HH := Lib.hid (three_set (x := .int .i64 20) (y := .int .i64 0) (z := .int .i64 (t.off : Int)) HR6.out)
          have HBZ := Lib.hid (((HB6.out.setCell (p := ⟨w.heap.size + 1, 0, none⟩) (by simp) (.int .i64 20)).setCell (p := ⟨w.heap.size + 1, 1, none⟩) (by simp) (.int .i64 0)).setCell (p := ⟨w.heap.size + 1, 2, none⟩) (by simp) (.int .i64 (t.off : Int)))
          go_wp2
          refine bodyPost_ret (results_cell_row rfl _ _ (w.heap.size + 1) 27 #[.int .i64 20, .int .i64 0, .int .i64 (t.off : Int)] (0, 0) _ rfl HH.out Tryz.underlying27 rfl Tryz.size25) rfl ?_
          exact ⟨by rw [HVV.out]; rfl, HBZ.out⟩
      | some tt =>
        simp only [stV]
        have el : decide ((tt : Int) < 0) = false := decide_eq_false (by omega)
        have el2 : ¬ (tt : Int) < 0 := by omega
        have HST := Lib.hid hst
        clear hst
        by_cases h99 : tt = 99
        · have e99 : ((tt : Int) == 99) = true := by simp; omega
          have HVV : Hid (V = (0, 0)) := Lib.hid (by rw [← HJ2.out]; simp only [Gr.J, HST.out, h99, if_true])
          clear h99
          have HH := Lib.hid (three_set (x := .int .i64 0) (y := .int .i64 0) (z := .int .i64 0) HR6.out)
          have HBZ := Lib.hid (((HB6.out.setCell (p := ⟨w.heap.size + 1, 0, none⟩) (by simp) (.int .i64 0)).setCell (p := ⟨w.heap.size + 1, 1, none⟩) (by simp) (.int .i64 0)).setCell (p := ⟨w.heap.size + 1, 2, none⟩) (by simp) (.int .i64 0))
          go_wp2
          refine bodyPost_ret (results_cell_row rfl _ _ (w.heap.size + 1) 27 #[.int .i64 0, .int .i64 0, .int .i64 0] (0, 0) _ rfl HH.out Tryz.underlying27 rfl Tryz.size25) rfl ?_
          exact ⟨by rw [HVV.out]; rfl, HBZ.out⟩
        · have e99 : ((tt : Int) == 99) = false := by simp; omega
          have HG : Hid (V = (if S = 0 ∨ S = 30 then (if (S = 0 ∧ C + 1 > 512) ∨ (S = 30 ∧ C + 1 > 4096) then (24, t.off) else Gr.J f q tt (C + 1) 0 0 r)
              else if S = 5 then (if Ln + 1 > 16 then (23, t.off) else Gr.J f q tt C (Ln + 1) 0 r)
              else if S = 2 ∨ S = 7 ∨ S = 32 ∨ S = 42 then (if N + 1 > 8 then (22, t.off) else Gr.J f q tt C Ln (N + 1) r)
              else Gr.J f q tt C Ln N r)) := Lib.hid (by rw [← HJ2.out]; simp only [Gr.J, HST.out, h99, if_false])
          clear h99
          by_cases hs0 : S = 0
          · have es0 : ((S : Int) == 0) = true := by simp; omega
            have es30 : ((S : Int) == 30) = false := by simp; omega
            have es5 : ((S : Int) == 5) = false := by simp; omega
            have es2 : ((S : Int) == 2) = false := by simp; omega
            have es7 : ((S : Int) == 7) = false := by simp; omega
            have es32 : ((S : Int) == 32) = false := by simp; omega
            have es42 : ((S : Int) == 42) = false := by simp; omega
            by_cases hl : C + 1 > 512
            · have eg : decide ((C : Int) + 1 > 512) = true := decide_eq_true (by omega)
              have eg2 : decide (512 < (C : Int) + 1) = true := decide_eq_true (by omega)
              have HVV : Hid (V = (24, t.off)) := Lib.hid (by rw [HG.out]; simp [hs0, hl])
              clear hl hs0
              have HH := Lib.hid (three_set (x := .int .i64 24) (y := .int .i64 0) (z := .int .i64 (t.off : Int)) HR6.out)
              have HBZ := Lib.hid (((HB6.out.setCell (p := ⟨w.heap.size + 1, 0, none⟩) (by simp) (.int .i64 24)).setCell (p := ⟨w.heap.size + 1, 1, none⟩) (by simp) (.int .i64 0)).setCell (p := ⟨w.heap.size + 1, 2, none⟩) (by simp) (.int .i64 (t.off : Int)))
              go_wp2
              refine bodyPost_ret (results_cell_row rfl _ _ (w.heap.size + 1) 27 #[.int .i64 24, .int .i64 0, .int .i64 (t.off : Int)] (0, 0) _ rfl HH.out Tryz.underlying27 rfl Tryz.size25) rfl ?_
              exact ⟨by rw [HVV.out]; rfl, HBZ.out⟩
            · have eg : decide ((C : Int) + 1 > 512) = false := decide_eq_false (by omega)
              have eg2 : decide (512 < (C : Int) + 1) = false := decide_eq_false (by omega)
              have HNX : Hid (Gr.J f q tt (C + 1) 0 0 r = V) := Lib.hid (by rw [HG.out]; simp [hs0, hl])
              clear hl hs0
              go_wp2
              go_roundw
              case rel => exact ⟨i + 1, tt, C + 1, 0, 0, by go_num, rfl, by go_num, by go_num, by go_num, by omega, by omega, by omega, by omega, Lib.hid (by rw [← HRR.out]; exact HNX.out), HB6, HF6, HR6⟩
              case measure => simp only [intOf]; omega
          · by_cases hs30 : S = 30
            · have es0 : ((S : Int) == 0) = false := by simp; omega
              have es30 : ((S : Int) == 30) = true := by simp; omega
              have es5 : ((S : Int) == 5) = false := by simp; omega
              have es2 : ((S : Int) == 2) = false := by simp; omega
              have es7 : ((S : Int) == 7) = false := by simp; omega
              have es32 : ((S : Int) == 32) = false := by simp; omega
              have es42 : ((S : Int) == 42) = false := by simp; omega
              by_cases hl : C + 1 > 4096
              · have eg : decide ((C : Int) + 1 > 4096) = true := decide_eq_true (by omega)
                have eg2 : decide (4096 < (C : Int) + 1) = true := decide_eq_true (by omega)
                have HVV : Hid (V = (24, t.off)) := Lib.hid (by rw [HG.out]; simp [hs30, hl])
                clear hl hs30
                have HH := Lib.hid (three_set (x := .int .i64 24) (y := .int .i64 0) (z := .int .i64 (t.off : Int)) HR6.out)
                have HBZ := Lib.hid (((HB6.out.setCell (p := ⟨w.heap.size + 1, 0, none⟩) (by simp) (.int .i64 24)).setCell (p := ⟨w.heap.size + 1, 1, none⟩) (by simp) (.int .i64 0)).setCell (p := ⟨w.heap.size + 1, 2, none⟩) (by simp) (.int .i64 (t.off : Int)))
                go_wp2
                refine bodyPost_ret (results_cell_row rfl _ _ (w.heap.size + 1) 27 #[.int .i64 24, .int .i64 0, .int .i64 (t.off : Int)] (0, 0) _ rfl HH.out Tryz.underlying27 rfl Tryz.size25) rfl ?_
                exact ⟨by rw [HVV.out]; rfl, HBZ.out⟩
              · have eg : decide ((C : Int) + 1 > 4096) = false := decide_eq_false (by omega)
                have eg2 : decide (4096 < (C : Int) + 1) = false := decide_eq_false (by omega)
                have HNX : Hid (Gr.J f q tt (C + 1) 0 0 r = V) := Lib.hid (by rw [HG.out]; simp [hs30, hl])
                clear hl hs30
                go_wp2
                go_roundw
                case rel => exact ⟨i + 1, tt, C + 1, 0, 0, by go_num, rfl, by go_num, by go_num, by go_num, by omega, by omega, by omega, by omega, Lib.hid (by rw [← HRR.out]; exact HNX.out), HB6, HF6, HR6⟩
                case measure => simp only [intOf]; omega
            · by_cases hs5 : S = 5
              · have es0 : ((S : Int) == 0) = false := by simp; omega
                have es30 : ((S : Int) == 30) = false := by simp; omega
                have es5 : ((S : Int) == 5) = true := by simp; omega
                have es2 : ((S : Int) == 2) = false := by simp; omega
                have es7 : ((S : Int) == 7) = false := by simp; omega
                have es32 : ((S : Int) == 32) = false := by simp; omega
                have es42 : ((S : Int) == 42) = false := by simp; omega
                by_cases hl : Ln + 1 > 16
                · have eg : decide ((Ln : Int) + 1 > 16) = true := decide_eq_true (by omega)
                  have eg2 : decide (16 < (Ln : Int) + 1) = true := decide_eq_true (by omega)
                  have HVV : Hid (V = (23, t.off)) := Lib.hid (by rw [HG.out]; simp [hs5, hl])
                  clear hl hs5
                  have HH := Lib.hid (three_set (x := .int .i64 23) (y := .int .i64 0) (z := .int .i64 (t.off : Int)) HR6.out)
                  have HBZ := Lib.hid (((HB6.out.setCell (p := ⟨w.heap.size + 1, 0, none⟩) (by simp) (.int .i64 23)).setCell (p := ⟨w.heap.size + 1, 1, none⟩) (by simp) (.int .i64 0)).setCell (p := ⟨w.heap.size + 1, 2, none⟩) (by simp) (.int .i64 (t.off : Int)))
                  go_wp2
                  refine bodyPost_ret (results_cell_row rfl _ _ (w.heap.size + 1) 27 #[.int .i64 23, .int .i64 0, .int .i64 (t.off : Int)] (0, 0) _ rfl HH.out Tryz.underlying27 rfl Tryz.size25) rfl ?_
                  exact ⟨by rw [HVV.out]; rfl, HBZ.out⟩
                · have eg : decide ((Ln : Int) + 1 > 16) = false := decide_eq_false (by omega)
                  have eg2 : decide (16 < (Ln : Int) + 1) = false := decide_eq_false (by omega)
                  have HNX : Hid (Gr.J f q tt C (Ln + 1) 0 r = V) := Lib.hid (by rw [HG.out]; simp [hs5, hl])
                  clear hl hs5
                  go_wp2
                  go_roundw
                  case rel => exact ⟨i + 1, tt, C, Ln + 1, 0, by go_num, rfl, by go_num, by go_num, by go_num, by omega, by omega, by omega, by omega, Lib.hid (by rw [← HRR.out]; exact HNX.out), HB6, HF6, HR6⟩
                  case measure => simp only [intOf]; omega
              · by_cases hs2 : S = 2
                · have es0 : ((S : Int) == 0) = false := by simp; omega
                  have es30 : ((S : Int) == 30) = false := by simp; omega
                  have es5 : ((S : Int) == 5) = false := by simp; omega
                  have es2 : ((S : Int) == 2) = true := by simp; omega
                  have es7 : ((S : Int) == 7) = false := by simp; omega
                  have es32 : ((S : Int) == 32) = false := by simp; omega
                  have es42 : ((S : Int) == 42) = false := by simp; omega
                  by_cases hl : N + 1 > 8
                  · have eg : decide ((N : Int) + 1 > 8) = true := decide_eq_true (by omega)
                    have eg2 : decide (8 < (N : Int) + 1) = true := decide_eq_true (by omega)
                    have HVV : Hid (V = (22, t.off)) := Lib.hid (by rw [HG.out]; simp [hs2, hl])
                    clear hl hs2
                    have HH := Lib.hid (three_set (x := .int .i64 22) (y := .int .i64 0) (z := .int .i64 (t.off : Int)) HR6.out)
                    have HBZ := Lib.hid (((HB6.out.setCell (p := ⟨w.heap.size + 1, 0, none⟩) (by simp) (.int .i64 22)).setCell (p := ⟨w.heap.size + 1, 1, none⟩) (by simp) (.int .i64 0)).setCell (p := ⟨w.heap.size + 1, 2, none⟩) (by simp) (.int .i64 (t.off : Int)))
                    go_wp2
                    refine bodyPost_ret (results_cell_row rfl _ _ (w.heap.size + 1) 27 #[.int .i64 22, .int .i64 0, .int .i64 (t.off : Int)] (0, 0) _ rfl HH.out Tryz.underlying27 rfl Tryz.size25) rfl ?_
                    exact ⟨by rw [HVV.out]; rfl, HBZ.out⟩
                  · have eg : decide ((N : Int) + 1 > 8) = false := decide_eq_false (by omega)
                    have eg2 : decide (8 < (N : Int) + 1) = false := decide_eq_false (by omega)
                    have HNX : Hid (Gr.J f q tt C Ln (N + 1) r = V) := Lib.hid (by rw [HG.out]; simp [hs2, hl])
                    clear hl hs2
                    go_wp2
                    go_roundw
                    case rel => exact ⟨i + 1, tt, C, Ln, N + 1, by go_num, rfl, by go_num, by go_num, by go_num, by omega, by omega, by omega, by omega, Lib.hid (by rw [← HRR.out]; exact HNX.out), HB6, HF6, HR6⟩
                    case measure => simp only [intOf]; omega
                · by_cases hs7 : S = 7
                  · have es0 : ((S : Int) == 0) = false := by simp; omega
                    have es30 : ((S : Int) == 30) = false := by simp; omega
                    have es5 : ((S : Int) == 5) = false := by simp; omega
                    have es2 : ((S : Int) == 2) = false := by simp; omega
                    have es7 : ((S : Int) == 7) = true := by simp; omega
                    have es32 : ((S : Int) == 32) = false := by simp; omega
                    have es42 : ((S : Int) == 42) = false := by simp; omega
                    by_cases hl : N + 1 > 8
                    · have eg : decide ((N : Int) + 1 > 8) = true := decide_eq_true (by omega)
                      have eg2 : decide (8 < (N : Int) + 1) = true := decide_eq_true (by omega)
                      have HVV : Hid (V = (22, t.off)) := Lib.hid (by rw [HG.out]; simp [hs7, hl])
                      clear hl hs7
                      have HH := Lib.hid (three_set (x := .int .i64 22) (y := .int .i64 0) (z := .int .i64 (t.off : Int)) HR6.out)
                      have HBZ := Lib.hid (((HB6.out.setCell (p := ⟨w.heap.size + 1, 0, none⟩) (by simp) (.int .i64 22)).setCell (p := ⟨w.heap.size + 1, 1, none⟩) (by simp) (.int .i64 0)).setCell (p := ⟨w.heap.size + 1, 2, none⟩) (by simp) (.int .i64 (t.off : Int)))
                      go_wp2
                      refine bodyPost_ret (results_cell_row rfl _ _ (w.heap.size + 1) 27 #[.int .i64 22, .int .i64 0, .int .i64 (t.off : Int)] (0, 0) _ rfl HH.out Tryz.underlying27 rfl Tryz.size25) rfl ?_
                      exact ⟨by rw [HVV.out]; rfl, HBZ.out⟩
                    · have eg : decide ((N : Int) + 1 > 8) = false := decide_eq_false (by omega)
                      have eg2 : decide (8 < (N : Int) + 1) = false := decide_eq_false (by omega)
                      have HNX : Hid (Gr.J f q tt C Ln (N + 1) r = V) := Lib.hid (by rw [HG.out]; simp [hs7, hl])
                      clear hl hs7
                      go_wp2
                      go_roundw
                      case rel => exact ⟨i + 1, tt, C, Ln, N + 1, by go_num, rfl, by go_num, by go_num, by go_num, by omega, by omega, by omega, by omega, Lib.hid (by rw [← HRR.out]; exact HNX.out), HB6, HF6, HR6⟩
                      case measure => simp only [intOf]; omega
                  · by_cases hs32 : S = 32
                    · have es0 : ((S : Int) == 0) = false := by simp; omega
                      have es30 : ((S : Int) == 30) = false := by simp; omega
                      have es5 : ((S : Int) == 5) = false := by simp; omega
                      have es2 : ((S : Int) == 2) = false := by simp; omega
                      have es7 : ((S : Int) == 7) = false := by simp; omega
                      have es32 : ((S : Int) == 32) = true := by simp; omega
                      have es42 : ((S : Int) == 42) = false := by simp; omega
                      by_cases hl : N + 1 > 8
                      · have eg : decide ((N : Int) + 1 > 8) = true := decide_eq_true (by omega)
                        have eg2 : decide (8 < (N : Int) + 1) = true := decide_eq_true (by omega)
                        have HVV : Hid (V = (22, t.off)) := Lib.hid (by rw [HG.out]; simp [hs32, hl])
                        clear hl hs32
                        have HH := Lib.hid (three_set (x := .int .i64 22) (y := .int .i64 0) (z := .int .i64 (t.off : Int)) HR6.out)
                        have HBZ := Lib.hid (((HB6.out.setCell (p := ⟨w.heap.size + 1, 0, none⟩) (by simp) (.int .i64 22)).setCell (p := ⟨w.heap.size + 1, 1, none⟩) (by simp) (.int .i64 0)).setCell (p := ⟨w.heap.size + 1, 2, none⟩) (by simp) (.int .i64 (t.off : Int)))
                        go_wp2
                        refine bodyPost_ret (results_cell_row rfl _ _ (w.heap.size + 1) 27 #[.int .i64 22, .int .i64 0, .int .i64 (t.off : Int)] (0, 0) _ rfl HH.out Tryz.underlying27 rfl Tryz.size25) rfl ?_
                        exact ⟨by rw [HVV.out]; rfl, HBZ.out⟩
                      · have eg : decide ((N : Int) + 1 > 8) = false := decide_eq_false (by omega)
                        have eg2 : decide (8 < (N : Int) + 1) = false := decide_eq_false (by omega)
                        have HNX : Hid (Gr.J f q tt C Ln (N + 1) r = V) := Lib.hid (by rw [HG.out]; simp [hs32, hl])
                        clear hl hs32
                        go_wp2
                        go_roundw
                        case rel => exact ⟨i + 1, tt, C, Ln, N + 1, by go_num, rfl, by go_num, by go_num, by go_num, by omega, by omega, by omega, by omega, Lib.hid (by rw [← HRR.out]; exact HNX.out), HB6, HF6, HR6⟩
                        case measure => simp only [intOf]; omega
                    · by_cases hs42 : S = 42
                      · have es0 : ((S : Int) == 0) = false := by simp; omega
                        have es30 : ((S : Int) == 30) = false := by simp; omega
                        have es5 : ((S : Int) == 5) = false := by simp; omega
                        have es2 : ((S : Int) == 2) = false := by simp; omega
                        have es7 : ((S : Int) == 7) = false := by simp; omega
                        have es32 : ((S : Int) == 32) = false := by simp; omega
                        have es42 : ((S : Int) == 42) = true := by simp; omega
                        by_cases hl : N + 1 > 8
                        · have eg : decide ((N : Int) + 1 > 8) = true := decide_eq_true (by omega)
                          have eg2 : decide (8 < (N : Int) + 1) = true := decide_eq_true (by omega)
                          have HVV : Hid (V = (22, t.off)) := Lib.hid (by rw [HG.out]; simp [hs42, hl])
                          clear hl hs42
                          have HH := Lib.hid (three_set (x := .int .i64 22) (y := .int .i64 0) (z := .int .i64 (t.off : Int)) HR6.out)
                          have HBZ := Lib.hid (((HB6.out.setCell (p := ⟨w.heap.size + 1, 0, none⟩) (by simp) (.int .i64 22)).setCell (p := ⟨w.heap.size + 1, 1, none⟩) (by simp) (.int .i64 0)).setCell (p := ⟨w.heap.size + 1, 2, none⟩) (by simp) (.int .i64 (t.off : Int)))
                          go_wp2
                          refine bodyPost_ret (results_cell_row rfl _ _ (w.heap.size + 1) 27 #[.int .i64 22, .int .i64 0, .int .i64 (t.off : Int)] (0, 0) _ rfl HH.out Tryz.underlying27 rfl Tryz.size25) rfl ?_
                          exact ⟨by rw [HVV.out]; rfl, HBZ.out⟩
                        · have eg : decide ((N : Int) + 1 > 8) = false := decide_eq_false (by omega)
                          have eg2 : decide (8 < (N : Int) + 1) = false := decide_eq_false (by omega)
                          have HNX : Hid (Gr.J f q tt C Ln (N + 1) r = V) := Lib.hid (by rw [HG.out]; simp [hs42, hl])
                          clear hl hs42
                          go_wp2
                          go_roundw
                          case rel => exact ⟨i + 1, tt, C, Ln, N + 1, by go_num, rfl, by go_num, by go_num, by go_num, by omega, by omega, by omega, by omega, Lib.hid (by rw [← HRR.out]; exact HNX.out), HB6, HF6, HR6⟩
                          case measure => simp only [intOf]; omega
                      · have es0 : ((S : Int) == 0) = false := by simp; omega
                        have es30 : ((S : Int) == 30) = false := by simp; omega
                        have es5 : ((S : Int) == 5) = false := by simp; omega
                        have es2 : ((S : Int) == 2) = false := by simp; omega
                        have es7 : ((S : Int) == 7) = false := by simp; omega
                        have es32 : ((S : Int) == 32) = false := by simp; omega
                        have es42 : ((S : Int) == 42) = false := by simp; omega
                        have HNX : Hid (Gr.J f q tt C Ln N r = V) := Lib.hid (by rw [HG.out]; simp [hs0, hs30, hs5, hs2, hs7, hs32, hs42])
                        clear hs0 hs30 hs5 hs2 hs7 hs32 hs42
                        go_wp2
                        go_roundw
                        case rel => exact ⟨i + 1, tt, C, Ln, N, by go_num, rfl, by go_num, by go_num, by go_num, by omega, by omega, by omega, by omega, Lib.hid (by rw [← HRR.out]; exact HNX.out), HB6, HF6, HR6⟩
                        case measure => simp only [intOf]; omega
    · have hie : i = n := by omega
      subst hie
      have hnl : ¬ (i : Int) < (i : Int) := by omega
      have hnd : decide ((i : Int) < (i : Int)) = false := decide_eq_false hnl
      have HVV : Hid (V = f) := Lib.hid (by rw [← HJ.out, List.drop_eq_nil_of_le (by rw [HN.out]; exact Nat.le_refl _)]; rfl)
      obtain ⟨x0, x1, x2, xf0, xf1, xf2⟩ := row3 HF.out
      obtain ⟨y0, y1, y2, yf0, yf1, yf2⟩ := row3 HR.out
      have HH := Lib.hid (three_set (x := .int .i64 (f.1 : Int)) (y := .int .i64 0) (z := .int .i64 (f.2 : Int)) HR.out)
      have HBZ := Lib.hid (((HB.out.setCell (p := ⟨w.heap.size + 1, 0, none⟩) (by simp) (.int .i64 (f.1 : Int))).setCell (p := ⟨w.heap.size + 1, 1, none⟩) (by simp) (.int .i64 0)).setCell (p := ⟨w.heap.size + 1, 2, none⟩) (by simp) (.int .i64 (f.2 : Int)))
      go_wp2
      refine bodyPost_ret (results_cell_row rfl _ _ (w.heap.size + 1) 27 #[.int .i64 (f.1 : Int), .int .i64 0, .int .i64 (f.2 : Int)] (0, 0) _ rfl HH.out Tryz.underlying27 rfl Tryz.size25) rfl ?_
      exact ⟨by rw [HVV.out]; rfl, HBZ.out⟩
end Go.Proofs.YtncdjkdpoinfaaaGreatDoor
/-
  The walks of parse.Program, Facts, Query, Fact at a text of more than 65536 bytes. Condition: that.
-/
namespace Go.Proofs.YtncdjkdpoinfaaaGreatDoor
open Go.RowKit Go.Shelf Pl


set_option maxRecDepth 100000 in
set_option maxHeartbeats 6400000 in
theorem parse_prog_long (s : ByteArray) (w : World) (hs : ¬ s.size ≤ 65536) :
    Calls Tryz.prog 4 #[.string s] w fun e w' => e = .returned (.tuple #[.agg #[.slice none 0 0], FaultV 1 0]) ∧ Below w.heap.size w w' := by
  have hmf : ∀ (fn : Fn) (first cap : Array Value) (w : World), (Instr.makeFunc fn first cap).run Tryz.prog w = .ok (.func fn first cap) w := fun _ _ _ _ => rfl
  obtain ⟨w1, hw1⟩ : ∃ w1, w1 = ((w.alloc (.cells #[.slice none 0 0] 24)).alloc (.cells #[.int .i64 0, .int .i64 0, .int .i64 0] 27)).alloc (.cells #[.slice none 0 0] 24) := ⟨_, rfl⟩
  have H1 : Hid (Below w.heap.size w w1) := Lib.hid (by rw [hw1]; exact ((up_alloc _ _).alloc (by simp) _).alloc (by simp; omega) _)
  have HZ1 : Hid (w1.heap.size = w.heap.size + 3) := Lib.hid (by rw [hw1]; simp)
  have HP1 : Hid (w1.heap[w.heap.size]? = some (.cells #[.slice none 0 0] 24)) := Lib.hid (by rw [hw1, Below.heap_alloc _ _ _ (by simp; omega), Below.heap_alloc _ _ _ (by simp)]; exact heap_alloc_new _ _)
  have HF1 : Hid (w1.heap[w.heap.size + 1]? = some (.cells #[.int .i64 0, .int .i64 0, .int .i64 0] 27)) := Lib.hid (by rw [hw1, Below.heap_alloc _ _ _ (by simp)]; have := heap_alloc_new (w.alloc (.cells #[.slice none 0 0] 24)) (.cells #[.int .i64 0, .int .i64 0, .int .i64 0] 27); simpa using this)
  have HC1 : Hid (w1.heap[w.heap.size + 2]? = some (.cells #[.slice none 0 0] 24)) := Lib.hid (by rw [hw1]; have := heap_alloc_new ((w.alloc (.cells #[.slice none 0 0] 24)).alloc (.cells #[.int .i64 0, .int .i64 0, .int .i64 0] 27)) (.cells #[.slice none 0 0] 24); simpa using this)
  have HW1 := Lib.hid hw1
  clear hw1
  go_enter Tryz.func4, Tryz.ntmps4
  go_upto_region 2 with fail
  rw [← HW1.out]
  go_wp2_with fail
  refine (guarded_long _ s w1 hs).mono ?_
  rintro e w2 ⟨he, ho⟩
  obtain ⟨F, hF⟩ : ∃ F : Gr.Flt, F = (1, 0) := ⟨_, rfl⟩
  have HFF := Lib.hid hF
  have he : e = .returned (FaultV F.1 F.2) := by rw [hF]; exact he
  have hne : F.1 ≠ 0 := by rw [hF]; decide
  clear hF
  have HF2 : Hid (w2.heap[(w.heap.size + 1)]? = some (.cells #[.int .i64 0, .int .i64 0, .int .i64 0] 27)) := Lib.hid (by rw [ho.block _ (by have := HZ1.out; omega)]; exact HF1.out)
  have HP2 : Hid (w2.heap[w.heap.size]? = some (.cells #[.slice none 0 0] 24)) := Lib.hid (by rw [ho.block _ (by have := HZ1.out; omega)]; exact HP1.out)
  have H2 : Hid (Below w.heap.size w w2) := Lib.hid (H1.out.trans (ho.mono (by have := HZ1.out; omega)))
  have HZ2 := Lib.hid ho.size
  clear ho
  have he : e = .returned (FaultV F.1 F.2) := he
  subst he
  rw [faultV_cells]
  have HNE := Lib.hid hne
  have ec : ((F.1 : Int) != 0) = true := by have := HNE.out; simp; omega
  go_upto_region 3 with fail
  obtain ⟨w3, hw3⟩ : ∃ w3, w3 = w2.alloc (.cells #[.int .i64 (F.1 : Int), .int .i64 0, .int .i64 (F.2 : Int)] 27) := ⟨_, rfl⟩
  rw [← hw3]
  have k3 : Kt (fun _ => True) w2 w3 := by rw [hw3]; exact Kt.alloc _ _
  have h3 : w3.heap[w2.heap.size]? = some (.cells #[.int .i64 (F.1 : Int), .int .i64 0, .int .i64 (F.2 : Int)] 27) := by rw [hw3]; exact heap_alloc_new _ _
  have hf3 := k3 _ _ _ HF2.out trivial
  have HF3 := Lib.hid hf3
  have H3 : Hid (Below w.heap.size w w3) := Lib.hid (by rw [hw3]; exact H2.out.alloc H2.out.size _)
  obtain ⟨b, hb0⟩ : ∃ b, b = w2.heap.size := ⟨_, rfl⟩
  rw [← hb0] at h3 ⊢
  have hne1 : ¬ b = w.heap.size := by have := HZ1.out; have := HZ2.out; omega
  have hne2 : ¬ b = w.heap.size + 1 := by have := HZ1.out; have := HZ2.out; omega
  have HZZ : Hid (w.heap.size ≤ w1.heap.size) := Lib.hid (by have := HZ1.out; omega)
  obtain ⟨x0, x1, x2, xf0, xf1, xf2⟩ := row3 h3
  obtain ⟨y0, y1, y2, yf0, yf1, yf2⟩ := row3 hf3
  have hp3 := k3 _ _ _ HP2.out trivial
  have HP3 := Lib.hid hp3
  obtain ⟨z0, zf0⟩ := row1c hp3
  have KT1 : Kt (fun t => t ≠ 24) w3 (w3.setCell ⟨w.heap.size, 0, none⟩ (.slice none 0 0)) := Kt.set (p := ⟨w.heap.size, 0, none⟩) HP3.out (by simp)
  have hf4 := KT1 _ _ _ HF3.out (by decide)
  have hh2 := tri_set (x0 := .int .i64 (F.1 : Int)) (x1 := .int .i64 0) (x2 := .int .i64 (F.2 : Int)) hf4
  have KT2 : Kt (fun t => t ≠ 27) (w3.setCell ⟨w.heap.size, 0, none⟩ (.slice none 0 0)) ((((w3.setCell ⟨w.heap.size, 0, none⟩ (.slice none 0 0)).setCell ⟨w.heap.size + 1, 0, none⟩ (.int .i64 (F.1 : Int))).setCell ⟨w.heap.size + 1, 1, none⟩ (.int .i64 0)).setCell ⟨w.heap.size + 1, 2, none⟩ (.int .i64 (F.2 : Int))) := tri_kt hf4 (by simp)
  have HP4 : Hid (((((w3.setCell ⟨w.heap.size, 0, none⟩ (.slice none 0 0)).setCell ⟨w.heap.size + 1, 0, none⟩ (.int .i64 (F.1 : Int))).setCell ⟨w.heap.size + 1, 1, none⟩ (.int .i64 0)).setCell ⟨w.heap.size + 1, 2, none⟩ (.int .i64 (F.2 : Int))).drew.heap[w.heap.size]? = some (.cells #[.slice none 0 0] 24)) := Lib.hid (by rw [drew_heap]; exact KT2 _ _ _ (one_setc HP3.out) (by decide))
  have HF4 : Hid (((((w3.setCell ⟨w.heap.size, 0, none⟩ (.slice none 0 0)).setCell ⟨w.heap.size + 1, 0, none⟩ (.int .i64 (F.1 : Int))).setCell ⟨w.heap.size + 1, 1, none⟩ (.int .i64 0)).setCell ⟨w.heap.size + 1, 2, none⟩ (.int .i64 (F.2 : Int))).drew.heap[(w.heap.size + 1)]? = some (.cells #[.int .i64 (F.1 : Int), .int .i64 0, .int .i64 (F.2 : Int)] 27)) := Lib.hid (by rw [drew_heap]; exact hh2)
  have KT : Kt (fun t => t ≠ 24 ∧ t ≠ 27) w3 ((((w3.setCell ⟨w.heap.size, 0, none⟩ (.slice none 0 0)).setCell ⟨w.heap.size + 1, 0, none⟩ (.int .i64 (F.1 : Int))).setCell ⟨w.heap.size + 1, 1, none⟩ (.int .i64 0)).setCell ⟨w.heap.size + 1, 2, none⟩ (.int .i64 (F.2 : Int))).drew := ((KT1.weak (fun t h => h.1)).trans (KT2.weak (fun t h => h.2))).trans (Kt.drew _)
  have HBZ : Hid (Below w.heap.size w ((((w3.setCell ⟨w.heap.size, 0, none⟩ (.slice none 0 0)).setCell ⟨w.heap.size + 1, 0, none⟩ (.int .i64 (F.1 : Int))).setCell ⟨w.heap.size + 1, 1, none⟩ (.int .i64 0)).setCell ⟨w.heap.size + 1, 2, none⟩ (.int .i64 (F.2 : Int))).drew) := Lib.hid ((Below.setCell (Below.setCell (Below.setCell (Below.setCell H3.out (p := ⟨w.heap.size, 0, none⟩) (by simp) _) (p := ⟨(w.heap.size + 1), 0, none⟩) (by simp) _) (p := ⟨(w.heap.size + 1), 1, none⟩) (by simp) _) (p := ⟨(w.heap.size + 1), 2, none⟩) (by simp) _)).drew
  clear KT k3 hw3 h3 hf3 hb0 hp3 KT1 KT2 hh2 hf4
  go_upto_region 4 with fail
  go_region
  all_goals
    go_wp2
    refine bodyPost_ret (results_two_rows rfl _ _ w.heap.size (w.heap.size + 1) 24 27 #[.slice none 0 0] #[.int .i64 (F.1 : Int), .int .i64 0, .int .i64 (F.2 : Int)] (0, 0) (0, 0) _ _ rfl HP4.out Tryz.underlying24 rfl Tryz.size24 rfl HF4.out Tryz.underlying27 rfl Tryz.size25) rfl ?_
    exact ⟨by rw [HFF.out]; rfl, HBZ.out⟩

set_option maxRecDepth 100000 in
set_option maxHeartbeats 6400000 in
theorem parse_facts_long (s : ByteArray) (w : World) (hs : ¬ s.size ≤ 65536) :
    Calls Tryz.prog 6 #[.string s] w fun e w' => e = .returned (.tuple #[.slice none 0 0, FaultV 1 0]) ∧ Below w.heap.size w w' := by
  have hmf : ∀ (fn : Fn) (first cap : Array Value) (w : World), (Instr.makeFunc fn first cap).run Tryz.prog w = .ok (.func fn first cap) w := fun _ _ _ _ => rfl
  obtain ⟨w1, hw1⟩ : ∃ w1, w1 = (w.alloc (.cells #[.int .i64 0, .int .i64 0, .int .i64 0] 27)).alloc (.cells #[.slice none 0 0] 39) := ⟨_, rfl⟩
  have H1 : Hid (Below w.heap.size w w1) := Lib.hid (by rw [hw1]; exact (up_alloc _ _).alloc (by simp) _)
  have HZ1 : Hid (w1.heap.size = w.heap.size + 2) := Lib.hid (by rw [hw1]; simp)
  have HF1 : Hid (w1.heap[w.heap.size]? = some (.cells #[.int .i64 0, .int .i64 0, .int .i64 0] 27)) := Lib.hid (by rw [hw1, Below.heap_alloc _ _ _ (by simp)]; exact heap_alloc_new _ _)
  have HC1 : Hid (w1.heap[w.heap.size + 1]? = some (.cells #[.slice none 0 0] 39)) := Lib.hid (by rw [hw1]; have := heap_alloc_new (w.alloc (.cells #[.int .i64 0, .int .i64 0, .int .i64 0] 27)) (.cells #[.slice none 0 0] 39); simpa using this)
  have HW1 := Lib.hid hw1
  clear hw1
  go_enter Tryz.func6, Tryz.ntmps6
  go_upto_region 2 with fail
  rw [← HW1.out]
  go_wp2_with fail
  refine (guarded_long _ s w1 hs).mono ?_
  rintro e w2 ⟨he, ho⟩
  obtain ⟨F, hF⟩ : ∃ F : Gr.Flt, F = (1, 0) := ⟨_, rfl⟩
  have HFF := Lib.hid hF
  have he : e = .returned (FaultV F.1 F.2) := by rw [hF]; exact he
  have hne : F.1 ≠ 0 := by rw [hF]; decide
  clear hF
  have HF2 : Hid (w2.heap[w.heap.size]? = some (.cells #[.int .i64 0, .int .i64 0, .int .i64 0] 27)) := Lib.hid (by rw [ho.block _ (by have := HZ1.out; omega)]; exact HF1.out)
  have H2 : Hid (Below w.heap.size w w2) := Lib.hid (H1.out.trans (ho.mono (by have := HZ1.out; omega)))
  have HZ2 := Lib.hid ho.size
  clear ho
  have he : e = .returned (FaultV F.1 F.2) := he
  subst he
  rw [faultV_cells]
  have HNE := Lib.hid hne
  have ec : ((F.1 : Int) != 0) = true := by have := HNE.out; simp; omega
  go_upto_region 3 with fail
  obtain ⟨w3, hw3⟩ : ∃ w3, w3 = w2.alloc (.cells #[.int .i64 (F.1 : Int), .int .i64 0, .int .i64 (F.2 : Int)] 27) := ⟨_, rfl⟩
  rw [← hw3]
  have k3 : Kt (fun _ => True) w2 w3 := by rw [hw3]; exact Kt.alloc _ _
  have h3 : w3.heap[w2.heap.size]? = some (.cells #[.int .i64 (F.1 : Int), .int .i64 0, .int .i64 (F.2 : Int)] 27) := by rw [hw3]; exact heap_alloc_new _ _
  have hf3 := k3 _ _ _ HF2.out trivial
  have HF3 := Lib.hid hf3
  have H3 : Hid (Below w.heap.size w w3) := Lib.hid (by rw [hw3]; exact H2.out.alloc H2.out.size _)
  obtain ⟨b, hb0⟩ : ∃ b, b = w2.heap.size := ⟨_, rfl⟩
  rw [← hb0] at h3 ⊢
  have hne1 : ¬ b = w.heap.size := by have := HZ1.out; have := HZ2.out; omega
  have hne2 : ¬ b = w.heap.size + 1 := by have := HZ1.out; have := HZ2.out; omega
  have HZZ : Hid (w.heap.size ≤ w1.heap.size) := Lib.hid (by have := HZ1.out; omega)
  obtain ⟨x0, x1, x2, xf0, xf1, xf2⟩ := row3 h3
  obtain ⟨y0, y1, y2, yf0, yf1, yf2⟩ := row3 hf3
  have HF4 : Hid ((((w3.setCell ⟨w.heap.size, 0, none⟩ (.int .i64 (F.1 : Int))).setCell ⟨w.heap.size, 1, none⟩ (.int .i64 0)).setCell ⟨w.heap.size, 2, none⟩ (.int .i64 (F.2 : Int))).drew.heap[w.heap.size]? = some (.cells #[.int .i64 (F.1 : Int), .int .i64 0, .int .i64 (F.2 : Int)] 27)) := Lib.hid (by rw [drew_heap]; exact tri_set (x0 := .int .i64 (F.1 : Int)) (x1 := .int .i64 0) (x2 := .int .i64 (F.2 : Int)) HF3.out)
  have KT : Kt (fun t => t ≠ 39 ∧ t ≠ 27) w3 (((w3.setCell ⟨w.heap.size, 0, none⟩ (.int .i64 (F.1 : Int))).setCell ⟨w.heap.size, 1, none⟩ (.int .i64 0)).setCell ⟨w.heap.size, 2, none⟩ (.int .i64 (F.2 : Int))).drew := (Kt.weak (T := fun t => t ≠ 27) (tri_kt HF3.out (by simp)) (fun t h => h.2)).trans (Kt.drew _)
  have HBZ : Hid (Below w.heap.size w (((w3.setCell ⟨w.heap.size, 0, none⟩ (.int .i64 (F.1 : Int))).setCell ⟨w.heap.size, 1, none⟩ (.int .i64 0)).setCell ⟨w.heap.size, 2, none⟩ (.int .i64 (F.2 : Int))).drew) := Lib.hid ((Below.setCell (Below.setCell (Below.setCell H3.out (p := ⟨w.heap.size, 0, none⟩) (by simp) _) (p := ⟨w.heap.size, 1, none⟩) (by simp) _) (p := ⟨w.heap.size, 2, none⟩) (by simp) _)).drew
  clear KT k3 hw3 h3 hf3 hb0
  go_upto_region 4 with fail
  go_region
  all_goals
    go_wp2
    refine bodyPost_ret (results_slot_row rfl _ _ (.slice none 0 0) w.heap.size 27 #[.int .i64 (F.1 : Int), .int .i64 0, .int .i64 (F.2 : Int)] (0, 0) _ rfl rfl HF4.out Tryz.underlying27 rfl Tryz.size25) rfl ?_
    exact ⟨by rw [HFF.out]; rfl, HBZ.out⟩

set_option maxRecDepth 100000 in
set_option maxHeartbeats 6400000 in
theorem parse_query_long (s : ByteArray) (w : World) (hs : ¬ s.size ≤ 65536) :
    Calls Tryz.prog 7 #[.string s] w fun e w' => e = .returned (.tuple #[.slice none 0 0, FaultV 1 0]) ∧ Below w.heap.size w w' := by
  have hmf : ∀ (fn : Fn) (first cap : Array Value) (w : World), (Instr.makeFunc fn first cap).run Tryz.prog w = .ok (.func fn first cap) w := fun _ _ _ _ => rfl
  obtain ⟨w1, hw1⟩ : ∃ w1, w1 = (w.alloc (.cells #[.int .i64 0, .int .i64 0, .int .i64 0] 27)).alloc (.cells #[.slice none 0 0] 33) := ⟨_, rfl⟩
  have H1 : Hid (Below w.heap.size w w1) := Lib.hid (by rw [hw1]; exact (up_alloc _ _).alloc (by simp) _)
  have HZ1 : Hid (w1.heap.size = w.heap.size + 2) := Lib.hid (by rw [hw1]; simp)
  have HF1 : Hid (w1.heap[w.heap.size]? = some (.cells #[.int .i64 0, .int .i64 0, .int .i64 0] 27)) := Lib.hid (by rw [hw1, Below.heap_alloc _ _ _ (by simp)]; exact heap_alloc_new _ _)
  have HC1 : Hid (w1.heap[w.heap.size + 1]? = some (.cells #[.slice none 0 0] 33)) := Lib.hid (by rw [hw1]; have := heap_alloc_new (w.alloc (.cells #[.int .i64 0, .int .i64 0, .int .i64 0] 27)) (.cells #[.slice none 0 0] 33); simpa using this)
  have HW1 := Lib.hid hw1
  clear hw1
  go_enter Tryz.func7, Tryz.ntmps7
  go_upto_region 2 with fail
  rw [← HW1.out]
  go_wp2_with fail
  refine (guarded_long _ s w1 hs).mono ?_
  rintro e w2 ⟨he, ho⟩
  obtain ⟨F, hF⟩ : ∃ F : Gr.Flt, F = (1, 0) := ⟨_, rfl⟩
  have HFF := Lib.hid hF
  have he : e = .returned (FaultV F.1 F.2) := by rw [hF]; exact he
  have hne : F.1 ≠ 0 := by rw [hF]; decide
  clear hF
  have HF2 : Hid (w2.heap[w.heap.size]? = some (.cells #[.int .i64 0, .int .i64 0, .int .i64 0] 27)) := Lib.hid (by rw [ho.block _ (by have := HZ1.out; omega)]; exact HF1.out)
  have H2 : Hid (Below w.heap.size w w2) := Lib.hid (H1.out.trans (ho.mono (by have := HZ1.out; omega)))
  have HZ2 := Lib.hid ho.size
  clear ho
  have he : e = .returned (FaultV F.1 F.2) := he
  subst he
  rw [faultV_cells]
  have HNE := Lib.hid hne
  have ec : ((F.1 : Int) != 0) = true := by have := HNE.out; simp; omega
  go_upto_region 3 with fail
  obtain ⟨w3, hw3⟩ : ∃ w3, w3 = w2.alloc (.cells #[.int .i64 (F.1 : Int), .int .i64 0, .int .i64 (F.2 : Int)] 27) := ⟨_, rfl⟩
  rw [← hw3]
  have k3 : Kt (fun _ => True) w2 w3 := by rw [hw3]; exact Kt.alloc _ _
  have h3 : w3.heap[w2.heap.size]? = some (.cells #[.int .i64 (F.1 : Int), .int .i64 0, .int .i64 (F.2 : Int)] 27) := by rw [hw3]; exact heap_alloc_new _ _
  have hf3 := k3 _ _ _ HF2.out trivial
  have HF3 := Lib.hid hf3
  have H3 : Hid (Below w.heap.size w w3) := Lib.hid (by rw [hw3]; exact H2.out.alloc H2.out.size _)
  obtain ⟨b, hb0⟩ : ∃ b, b = w2.heap.size := ⟨_, rfl⟩
  rw [← hb0] at h3 ⊢
  have hne1 : ¬ b = w.heap.size := by have := HZ1.out; have := HZ2.out; omega
  have hne2 : ¬ b = w.heap.size + 1 := by have := HZ1.out; have := HZ2.out; omega
  have HZZ : Hid (w.heap.size ≤ w1.heap.size) := Lib.hid (by have := HZ1.out; omega)
  obtain ⟨x0, x1, x2, xf0, xf1, xf2⟩ := row3 h3
  obtain ⟨y0, y1, y2, yf0, yf1, yf2⟩ := row3 hf3
  have HF4 : Hid ((((w3.setCell ⟨w.heap.size, 0, none⟩ (.int .i64 (F.1 : Int))).setCell ⟨w.heap.size, 1, none⟩ (.int .i64 0)).setCell ⟨w.heap.size, 2, none⟩ (.int .i64 (F.2 : Int))).drew.heap[w.heap.size]? = some (.cells #[.int .i64 (F.1 : Int), .int .i64 0, .int .i64 (F.2 : Int)] 27)) := Lib.hid (by rw [drew_heap]; exact tri_set (x0 := .int .i64 (F.1 : Int)) (x1 := .int .i64 0) (x2 := .int .i64 (F.2 : Int)) HF3.out)
  have KT : Kt (fun t => t ≠ 33 ∧ t ≠ 27) w3 (((w3.setCell ⟨w.heap.size, 0, none⟩ (.int .i64 (F.1 : Int))).setCell ⟨w.heap.size, 1, none⟩ (.int .i64 0)).setCell ⟨w.heap.size, 2, none⟩ (.int .i64 (F.2 : Int))).drew := (Kt.weak (T := fun t => t ≠ 27) (tri_kt HF3.out (by simp)) (fun t h => h.2)).trans (Kt.drew _)
  have HBZ : Hid (Below w.heap.size w (((w3.setCell ⟨w.heap.size, 0, none⟩ (.int .i64 (F.1 : Int))).setCell ⟨w.heap.size, 1, none⟩ (.int .i64 0)).setCell ⟨w.heap.size, 2, none⟩ (.int .i64 (F.2 : Int))).drew) := Lib.hid ((Below.setCell (Below.setCell (Below.setCell H3.out (p := ⟨w.heap.size, 0, none⟩) (by simp) _) (p := ⟨w.heap.size, 1, none⟩) (by simp) _) (p := ⟨w.heap.size, 2, none⟩) (by simp) _)).drew
  clear KT k3 hw3 h3 hf3 hb0
  go_upto_region 4 with fail
  go_region
  all_goals
    go_wp2
    refine bodyPost_ret (results_slot_row rfl _ _ (.slice none 0 0) w.heap.size 27 #[.int .i64 (F.1 : Int), .int .i64 0, .int .i64 (F.2 : Int)] (0, 0) _ rfl rfl HF4.out Tryz.underlying27 rfl Tryz.size25) rfl ?_
    exact ⟨by rw [HFF.out]; rfl, HBZ.out⟩

set_option maxRecDepth 100000 in
set_option maxHeartbeats 6400000 in
theorem parse_fact_long (s : ByteArray) (w : World) (hs : ¬ s.size ≤ 65536) :
    Calls Tryz.prog 8 #[.string s] w fun e w' => e = .returned (.tuple #[.agg #[.string { data := #[] }, .slice none 0 0], FaultV 1 0]) ∧ Below w.heap.size w w' := by
  have hmf : ∀ (fn : Fn) (first cap : Array Value) (w : World), (Instr.makeFunc fn first cap).run Tryz.prog w = .ok (.func fn first cap) w := fun _ _ _ _ => rfl
  obtain ⟨w1, hw1⟩ : ∃ w1, w1 = ((w.alloc (.cells #[.string { data := #[] }, .slice none 0 0] 46)).alloc (.cells #[.int .i64 0, .int .i64 0, .int .i64 0] 27)).alloc (.cells #[.string { data := #[] }, .slice none 0 0] 46) := ⟨_, rfl⟩
  have H1 : Hid (Below w.heap.size w w1) := Lib.hid (by rw [hw1]; exact ((up_alloc _ _).alloc (by simp) _).alloc (by simp; omega) _)
  have HZ1 : Hid (w1.heap.size = w.heap.size + 3) := Lib.hid (by rw [hw1]; simp)
  have HP1 : Hid (w1.heap[w.heap.size]? = some (.cells #[.string { data := #[] }, .slice none 0 0] 46)) := Lib.hid (by rw [hw1, Below.heap_alloc _ _ _ (by simp; omega), Below.heap_alloc _ _ _ (by simp)]; exact heap_alloc_new _ _)
  have HF1 : Hid (w1.heap[w.heap.size + 1]? = some (.cells #[.int .i64 0, .int .i64 0, .int .i64 0] 27)) := Lib.hid (by rw [hw1, Below.heap_alloc _ _ _ (by simp)]; have := heap_alloc_new (w.alloc (.cells #[.string { data := #[] }, .slice none 0 0] 46)) (.cells #[.int .i64 0, .int .i64 0, .int .i64 0] 27); simpa using this)
  have HC1 : Hid (w1.heap[w.heap.size + 2]? = some (.cells #[.string { data := #[] }, .slice none 0 0] 46)) := Lib.hid (by rw [hw1]; have := heap_alloc_new ((w.alloc (.cells #[.string { data := #[] }, .slice none 0 0] 46)).alloc (.cells #[.int .i64 0, .int .i64 0, .int .i64 0] 27)) (.cells #[.string { data := #[] }, .slice none 0 0] 46); simpa using this)
  have HW1 := Lib.hid hw1
  clear hw1
  go_enter Tryz.func8, Tryz.ntmps8
  go_upto_region 2 with fail
  rw [← HW1.out]
  go_wp2_with fail
  refine (guarded_long _ s w1 hs).mono ?_
  rintro e w2 ⟨he, ho⟩
  obtain ⟨F, hF⟩ : ∃ F : Gr.Flt, F = (1, 0) := ⟨_, rfl⟩
  have HFF := Lib.hid hF
  have he : e = .returned (FaultV F.1 F.2) := by rw [hF]; exact he
  have hne : F.1 ≠ 0 := by rw [hF]; decide
  clear hF
  have HF2 : Hid (w2.heap[(w.heap.size + 1)]? = some (.cells #[.int .i64 0, .int .i64 0, .int .i64 0] 27)) := Lib.hid (by rw [ho.block _ (by have := HZ1.out; omega)]; exact HF1.out)
  have HP2 : Hid (w2.heap[w.heap.size]? = some (.cells #[.string { data := #[] }, .slice none 0 0] 46)) := Lib.hid (by rw [ho.block _ (by have := HZ1.out; omega)]; exact HP1.out)
  have H2 : Hid (Below w.heap.size w w2) := Lib.hid (H1.out.trans (ho.mono (by have := HZ1.out; omega)))
  have HZ2 := Lib.hid ho.size
  clear ho
  have he : e = .returned (FaultV F.1 F.2) := he
  subst he
  rw [faultV_cells]
  have HNE := Lib.hid hne
  have ec : ((F.1 : Int) != 0) = true := by have := HNE.out; simp; omega
  go_upto_region 3 with fail
  obtain ⟨w3, hw3⟩ : ∃ w3, w3 = w2.alloc (.cells #[.int .i64 (F.1 : Int), .int .i64 0, .int .i64 (F.2 : Int)] 27) := ⟨_, rfl⟩
  rw [← hw3]
  have k3 : Kt (fun _ => True) w2 w3 := by rw [hw3]; exact Kt.alloc _ _
  have h3 : w3.heap[w2.heap.size]? = some (.cells #[.int .i64 (F.1 : Int), .int .i64 0, .int .i64 (F.2 : Int)] 27) := by rw [hw3]; exact heap_alloc_new _ _
  have hf3 := k3 _ _ _ HF2.out trivial
  have HF3 := Lib.hid hf3
  have H3 : Hid (Below w.heap.size w w3) := Lib.hid (by rw [hw3]; exact H2.out.alloc H2.out.size _)
  obtain ⟨b, hb0⟩ : ∃ b, b = w2.heap.size := ⟨_, rfl⟩
  rw [← hb0] at h3 ⊢
  have hne1 : ¬ b = w.heap.size := by have := HZ1.out; have := HZ2.out; omega
  have hne2 : ¬ b = w.heap.size + 1 := by have := HZ1.out; have := HZ2.out; omega
  have HZZ : Hid (w.heap.size ≤ w1.heap.size) := Lib.hid (by have := HZ1.out; omega)
  obtain ⟨x0, x1, x2, xf0, xf1, xf2⟩ := row3 h3
  obtain ⟨y0, y1, y2, yf0, yf1, yf2⟩ := row3 hf3
  have hp3 := k3 _ _ _ HP2.out trivial
  have HP3 := Lib.hid hp3
  obtain ⟨z0, z1, zf0, zf1⟩ := row2c hp3
  have KT1 : Kt (fun t => t ≠ 46) w3 ((w3.setCell ⟨w.heap.size, 0, none⟩ (.string { data := #[] })).setCell ⟨w.heap.size, 1, none⟩ (.slice none 0 0)) := (Kt.set (p := ⟨w.heap.size, 0, none⟩) HP3.out (by simp)).trans (Kt.set (p := ⟨w.heap.size, 1, none⟩) (show (w3.setCell ⟨w.heap.size, 0, none⟩ (.string { data := #[] })).heap[w.heap.size]? = some (.cells #[.string { data := #[] }, .slice none 0 0] 46) by have := HP3.out; simp [World.setCell, Array.getElem?_modify, this]) (by simp))
  have hf4 := KT1 _ _ _ HF3.out (by decide)
  have hh2 := tri_set (x0 := .int .i64 (F.1 : Int)) (x1 := .int .i64 0) (x2 := .int .i64 (F.2 : Int)) hf4
  have KT2 : Kt (fun t => t ≠ 27) ((w3.setCell ⟨w.heap.size, 0, none⟩ (.string { data := #[] })).setCell ⟨w.heap.size, 1, none⟩ (.slice none 0 0)) (((((w3.setCell ⟨w.heap.size, 0, none⟩ (.string { data := #[] })).setCell ⟨w.heap.size, 1, none⟩ (.slice none 0 0)).setCell ⟨w.heap.size + 1, 0, none⟩ (.int .i64 (F.1 : Int))).setCell ⟨w.heap.size + 1, 1, none⟩ (.int .i64 0)).setCell ⟨w.heap.size + 1, 2, none⟩ (.int .i64 (F.2 : Int))) := tri_kt hf4 (by simp)
  have HP4 : Hid ((((((w3.setCell ⟨w.heap.size, 0, none⟩ (.string { data := #[] })).setCell ⟨w.heap.size, 1, none⟩ (.slice none 0 0)).setCell ⟨w.heap.size + 1, 0, none⟩ (.int .i64 (F.1 : Int))).setCell ⟨w.heap.size + 1, 1, none⟩ (.int .i64 0)).setCell ⟨w.heap.size + 1, 2, none⟩ (.int .i64 (F.2 : Int))).drew.heap[w.heap.size]? = some (.cells #[.string { data := #[] }, .slice none 0 0] 46)) := Lib.hid (by rw [drew_heap]; exact KT2 _ _ _ (duo_set HP3.out) (by decide))
  have HF4 : Hid ((((((w3.setCell ⟨w.heap.size, 0, none⟩ (.string { data := #[] })).setCell ⟨w.heap.size, 1, none⟩ (.slice none 0 0)).setCell ⟨w.heap.size + 1, 0, none⟩ (.int .i64 (F.1 : Int))).setCell ⟨w.heap.size + 1, 1, none⟩ (.int .i64 0)).setCell ⟨w.heap.size + 1, 2, none⟩ (.int .i64 (F.2 : Int))).drew.heap[(w.heap.size + 1)]? = some (.cells #[.int .i64 (F.1 : Int), .int .i64 0, .int .i64 (F.2 : Int)] 27)) := Lib.hid (by rw [drew_heap]; exact hh2)
  have KT : Kt (fun t => t ≠ 46 ∧ t ≠ 27) w3 (((((w3.setCell ⟨w.heap.size, 0, none⟩ (.string { data := #[] })).setCell ⟨w.heap.size, 1, none⟩ (.slice none 0 0)).setCell ⟨w.heap.size + 1, 0, none⟩ (.int .i64 (F.1 : Int))).setCell ⟨w.heap.size + 1, 1, none⟩ (.int .i64 0)).setCell ⟨w.heap.size + 1, 2, none⟩ (.int .i64 (F.2 : Int))).drew := ((KT1.weak (fun t h => h.1)).trans (KT2.weak (fun t h => h.2))).trans (Kt.drew _)
  have HBZ : Hid (Below w.heap.size w (((((w3.setCell ⟨w.heap.size, 0, none⟩ (.string { data := #[] })).setCell ⟨w.heap.size, 1, none⟩ (.slice none 0 0)).setCell ⟨w.heap.size + 1, 0, none⟩ (.int .i64 (F.1 : Int))).setCell ⟨w.heap.size + 1, 1, none⟩ (.int .i64 0)).setCell ⟨w.heap.size + 1, 2, none⟩ (.int .i64 (F.2 : Int))).drew) := Lib.hid ((Below.setCell (Below.setCell (Below.setCell (Below.setCell (Below.setCell H3.out (p := ⟨w.heap.size, 0, none⟩) (by simp) _) (p := ⟨w.heap.size, 1, none⟩) (by simp) _) (p := ⟨(w.heap.size + 1), 0, none⟩) (by simp) _) (p := ⟨(w.heap.size + 1), 1, none⟩) (by simp) _) (p := ⟨(w.heap.size + 1), 2, none⟩) (by simp) _)).drew
  clear KT k3 hw3 h3 hf3 hb0 hp3 KT1 KT2 hh2 hf4
  go_upto_region 4 with fail
  go_region
  all_goals
    go_wp2
    refine bodyPost_ret (results_two_rows rfl _ _ w.heap.size (w.heap.size + 1) 46 27 #[.string { data := #[] }, .slice none 0 0] #[.int .i64 (F.1 : Int), .int .i64 0, .int .i64 (F.2 : Int)] (0, 0) (0, 0) _ _ rfl HP4.out Tryz.underlying46 rfl Tryz.size46 rfl HF4.out Tryz.underlying27 rfl Tryz.size25) rfl ?_
    exact ⟨by rw [HFF.out]; rfl, HBZ.out⟩
end Go.Proofs.YtncdjkdpoinfaaaGreatDoor
