/-
  Texts of this seat, one behind the other: W29, W30, W31, K0, K4, K5. Conditions: those that each of them states.
-/
import Derived.Test.YtncdjkdpoinfaaaGreatDoorG11
import Derived.OrdersHeld
import Derived.StillTailTactics
import Derived.Deep.RegionWith
import Derived.Test.YtncdjkdpoinfaaaGreatDoorG3
import Derived.BigRegion
/-
  The walk of the automaton. No condition.
-/
namespace Go.Proofs.YtncdjkdpoinfaaaGreatDoor
open Go.RowKit Go.Shelf Pl

def stepV (st k : Nat) (q : Bool) : Int := stV (Gr.step st k q)
theorem step_far {st k : Nat} {q : Bool} (h : 15 ≤ st) : stepV st k q = groundV st k := by
  unfold stepV groundV
  rw [if_neg (by omega)]
  unfold Gr.step
  split <;> first | rfl | omega
theorem step_0_true (k : Nat) : stepV 0 k true = eitherV (k : Int) 1 1 0 99 (-2) 0 := by
  simp only [stepV, Gr.step, eitherV]
  repeat' split
  all_goals first | rfl | omega | (exfalso; omega) | (simp [stV]; done) | (simp_all [stV]; done)
theorem step_1_true (k : Nat) : stepV 1 k true = eitherV (k : Int) 5 2 8 0 9 5 := by
  simp only [stepV, Gr.step, eitherV]
  repeat' split
  all_goals first | rfl | omega | (exfalso; omega) | (simp [stV]; done) | (simp_all [stV]; done)
theorem step_2_true (k : Nat) : stepV 2 k true = if Gr.isT true k = true then 3 else -1 := by
  simp only [stepV, Gr.step]
  repeat' split
  all_goals first | rfl | omega | (simp [stV]; done)
theorem step_7_true (k : Nat) : stepV 7 k true = if Gr.isT true k = true then 8 else -1 := by
  simp only [stepV, Gr.step]
  repeat' split
  all_goals first | rfl | omega | (simp [stV]; done)
theorem step_3_true (k : Nat) : stepV 3 k true = eitherV (k : Int) 7 2 6 4 (-2) 0 := by
  simp only [stepV, Gr.step, eitherV]
  repeat' split
  all_goals first | rfl | omega | (exfalso; omega) | (simp [stV]; done) | (simp_all [stV]; done)
theorem step_4_true (k : Nat) : stepV 4 k true = eitherV (k : Int) 8 0 9 5 (-2) 0 := by
  simp only [stepV, Gr.step, eitherV]
  repeat' split
  all_goals first | rfl | omega | (exfalso; omega) | (simp [stV]; done) | (simp_all [stV]; done)
theorem step_5_true (k : Nat) : stepV 5 k true = if k = 2 ∨ k = 3 ∨ k = 4 then 12 else eitherV (k : Int) 1 6 10 10 (-2) 0 := by
  simp only [stepV, Gr.step, eitherV]
  repeat' split
  all_goals first | rfl | omega | (exfalso; omega) | (simp [stV]; done)
theorem step_6_true (k : Nat) : stepV 6 k true = if k = 11 then 13 else eitherV (k : Int) 5 7 7 5 8 20 := by
  simp only [stepV, Gr.step, eitherV]
  repeat' split
  all_goals first | rfl | omega | (exfalso; omega) | (simp [stV]; done) | (simp_all [stV]; done)
theorem step_8_true (k : Nat) : stepV 8 k true = eitherV (k : Int) 7 7 6 9 (-2) 0 := by
  simp only [stepV, Gr.step, eitherV]
  repeat' split
  all_goals first | rfl | omega | (exfalso; omega) | (simp [stV]; done) | (simp_all [stV]; done)
theorem step_9_true (k : Nat) : stepV 9 k true = eitherV (k : Int) 7 5 8 20 (-2) 0 := by
  simp only [stepV, Gr.step, eitherV]
  repeat' split
  all_goals first | rfl | omega | (exfalso; omega) | (simp [stV]; done) | (simp_all [stV]; done)
theorem step_14_true (k : Nat) : stepV 14 k true = eitherV (k : Int) 7 5 8 20 (-2) 0 := by
  simp only [stepV, Gr.step, eitherV]
  repeat' split
  all_goals first | rfl | omega | (exfalso; omega) | (simp [stV]; done) | (simp_all [stV]; done)
theorem step_10_true (k : Nat) : stepV 10 k true = eitherV (k : Int) 1 11 (-2) 0 (-2) 0 := by
  simp only [stepV, Gr.step, eitherV]
  repeat' split
  all_goals first | rfl | omega | (exfalso; omega) | (simp [stV]; done) | (simp_all [stV]; done)
theorem step_11_true (k : Nat) : stepV 11 k true = eitherV (k : Int) 5 7 7 5 8 20 := by
  simp only [stepV, Gr.step, eitherV]
  repeat' split
  all_goals first | rfl | omega | (exfalso; omega) | (simp [stV]; done) | (simp_all [stV]; done)
theorem step_12_true (k : Nat) : stepV 12 k true = eitherV (k : Int) 11 13 (-2) 0 (-2) 0 := by
  simp only [stepV, Gr.step, eitherV]
  repeat' split
  all_goals first | rfl | omega | (exfalso; omega) | (simp [stV]; done) | (simp_all [stV]; done)
theorem step_13_true (k : Nat) : stepV 13 k true = if Gr.isT true k = true then 14 else -1 := by
  simp only [stepV, Gr.step]
  repeat' split
  all_goals first | rfl | omega | (simp [stV]; done)
theorem step_0_false (k : Nat) : stepV 0 k false = eitherV (k : Int) 1 1 0 99 (-2) 0 := by
  simp only [stepV, Gr.step, eitherV]
  repeat' split
  all_goals first | rfl | omega | (exfalso; omega) | (simp [stV]; done) | (simp_all [stV]; done)
theorem step_1_false (k : Nat) : stepV 1 k false = eitherV (k : Int) 5 2 8 0 9 5 := by
  simp only [stepV, Gr.step, eitherV]
  repeat' split
  all_goals first | rfl | omega | (exfalso; omega) | (simp [stV]; done) | (simp_all [stV]; done)
theorem step_2_false (k : Nat) : stepV 2 k false = if Gr.isT true k = true then 3 else -1 := by
  simp only [stepV, Gr.step]
  repeat' split
  all_goals first | rfl | omega | (simp [stV]; done)
theorem step_7_false (k : Nat) : stepV 7 k false = if Gr.isT true k = true then 8 else -1 := by
  simp only [stepV, Gr.step]
  repeat' split
  all_goals first | rfl | omega | (simp [stV]; done)
theorem step_3_false (k : Nat) : stepV 3 k false = eitherV (k : Int) 7 2 6 4 (-2) 0 := by
  simp only [stepV, Gr.step, eitherV]
  repeat' split
  all_goals first | rfl | omega | (exfalso; omega) | (simp [stV]; done) | (simp_all [stV]; done)
theorem step_4_false (k : Nat) : stepV 4 k false = eitherV (k : Int) 8 0 9 5 (-2) 0 := by
  simp only [stepV, Gr.step, eitherV]
  repeat' split
  all_goals first | rfl | omega | (exfalso; omega) | (simp [stV]; done) | (simp_all [stV]; done)
theorem step_5_false (k : Nat) : stepV 5 k false = if k = 2 ∨ k = 3 ∨ k = 4 then 12 else eitherV (k : Int) 1 6 10 10 (-2) 0 := by
  simp only [stepV, Gr.step, eitherV]
  repeat' split
  all_goals first | rfl | omega | (exfalso; omega) | (simp [stV]; done)
theorem step_6_false (k : Nat) : stepV 6 k false = if k = 11 then 13 else eitherV (k : Int) 5 7 7 5 8 0 := by
  simp only [stepV, Gr.step, eitherV]
  repeat' split
  all_goals first | rfl | omega | (exfalso; omega) | (simp [stV]; done) | (simp_all [stV]; done)
theorem step_8_false (k : Nat) : stepV 8 k false = eitherV (k : Int) 7 7 6 9 (-2) 0 := by
  simp only [stepV, Gr.step, eitherV]
  repeat' split
  all_goals first | rfl | omega | (exfalso; omega) | (simp [stV]; done) | (simp_all [stV]; done)
theorem step_9_false (k : Nat) : stepV 9 k false = eitherV (k : Int) 7 5 8 0 (-2) 0 := by
  simp only [stepV, Gr.step, eitherV]
  repeat' split
  all_goals first | rfl | omega | (exfalso; omega) | (simp [stV]; done) | (simp_all [stV]; done)
theorem step_14_false (k : Nat) : stepV 14 k false = eitherV (k : Int) 7 5 8 0 (-2) 0 := by
  simp only [stepV, Gr.step, eitherV]
  repeat' split
  all_goals first | rfl | omega | (exfalso; omega) | (simp [stV]; done) | (simp_all [stV]; done)
theorem step_10_false (k : Nat) : stepV 10 k false = eitherV (k : Int) 1 11 (-2) 0 (-2) 0 := by
  simp only [stepV, Gr.step, eitherV]
  repeat' split
  all_goals first | rfl | omega | (exfalso; omega) | (simp [stV]; done) | (simp_all [stV]; done)
theorem step_11_false (k : Nat) : stepV 11 k false = eitherV (k : Int) 5 7 7 5 8 0 := by
  simp only [stepV, Gr.step, eitherV]
  repeat' split
  all_goals first | rfl | omega | (exfalso; omega) | (simp [stV]; done) | (simp_all [stV]; done)
theorem step_12_false (k : Nat) : stepV 12 k false = eitherV (k : Int) 11 13 (-2) 0 (-2) 0 := by
  simp only [stepV, Gr.step, eitherV]
  repeat' split
  all_goals first | rfl | omega | (exfalso; omega) | (simp [stV]; done) | (simp_all [stV]; done)
theorem step_13_false (k : Nat) : stepV 13 k false = if Gr.isT true k = true then 14 else -1 := by
  simp only [stepV, Gr.step]
  repeat' split
  all_goals first | rfl | omega | (simp [stV]; done)
set_option maxRecDepth 100000 in
set_option maxHeartbeats 3200000 in
theorem step_any_true (st k mode : Nat) (w : World) (hm : ((mode : Int) == 2) = true) :
    Calls Tryz.prog 34 #[.int .i64 (st : Int), .int .i64 (k : Int), .int .i64 (mode : Int)] w fun e w' => e = .returned (.int .i64 (stepV st k true)) ∧ w' = w := by
  obtain ⟨V, hV⟩ : ∃ V, V = stepV st k true := ⟨_, rfl⟩
  rw [← hV]
  by_cases h0 : st = 0
  · subst h0
    have HR0 := Lib.hid (hV.trans (step_0_true k))
    clear hV
    have HR := HR0
    go_enter Tryz.func34, Tryz.ntmps34
    go_wp2_with fail
    refine (either_any (k : Int) 1 1 0 99 (-2) 0 w).mono ?_
    rintro e w' ⟨rfl, rfl⟩
    rw [← HR.out]
    go_wp2
    go_ret
    exact ⟨rfl, rfl⟩
  by_cases h1 : st = 1
  · subst h1
    have HR0 := Lib.hid (hV.trans (step_1_true k))
    clear hV
    have HR := HR0
    go_enter Tryz.func34, Tryz.ntmps34
    go_wp2_with fail
    refine (either_any (k : Int) 5 2 8 0 9 5 w).mono ?_
    rintro e w' ⟨rfl, rfl⟩
    rw [← HR.out]
    go_wp2
    go_ret
    exact ⟨rfl, rfl⟩
  by_cases h2 : st = 2
  · subst h2
    have HR0 := Lib.hid (hV.trans (step_2_true k))
    clear hV
    go_enter Tryz.func34, Tryz.ntmps34
    go_wp2_with fail
    refine (termKind_any k false w).mono ?_
    rintro e w' ⟨rfl, rfl⟩
    rw [show (!false) = true from rfl]
    cases hb : Gr.isT true k with
    | true =>
      have HV := Lib.hid (show V = 3 by rw [HR0.out, if_pos hb])
      clear hb HR0
      go_wp2
      go_ret
      exact ⟨by rw [HV.out]; first | done | rfl, rfl⟩
    | false =>
      have HV := Lib.hid (show V = -1 by rw [HR0.out, if_neg (by rw [hb]; simp)])
      clear hb HR0
      go_wp2
      go_ret
      exact ⟨by rw [HV.out]; first | done | rfl, rfl⟩
  by_cases h7 : st = 7
  · subst h7
    have HR0 := Lib.hid (hV.trans (step_7_true k))
    clear hV
    go_enter Tryz.func34, Tryz.ntmps34
    go_wp2_with fail
    refine (termKind_any k false w).mono ?_
    rintro e w' ⟨rfl, rfl⟩
    rw [show (!false) = true from rfl]
    cases hb : Gr.isT true k with
    | true =>
      have HV := Lib.hid (show V = 8 by rw [HR0.out, if_pos hb])
      clear hb HR0
      go_wp2
      go_ret
      exact ⟨by rw [HV.out]; first | done | rfl, rfl⟩
    | false =>
      have HV := Lib.hid (show V = -1 by rw [HR0.out, if_neg (by rw [hb]; simp)])
      clear hb HR0
      go_wp2
      go_ret
      exact ⟨by rw [HV.out]; first | done | rfl, rfl⟩
  by_cases h3 : st = 3
  · subst h3
    have HR0 := Lib.hid (hV.trans (step_3_true k))
    clear hV
    have HR := HR0
    go_enter Tryz.func34, Tryz.ntmps34
    go_wp2_with fail
    refine (either_any (k : Int) 7 2 6 4 (-2) 0 w).mono ?_
    rintro e w' ⟨rfl, rfl⟩
    rw [← HR.out]
    go_wp2
    go_ret
    exact ⟨rfl, rfl⟩
  by_cases h4 : st = 4
  · subst h4
    have HR0 := Lib.hid (hV.trans (step_4_true k))
    clear hV
    have HR := HR0
    go_enter Tryz.func34, Tryz.ntmps34
    go_wp2_with fail
    refine (either_any (k : Int) 8 0 9 5 (-2) 0 w).mono ?_
    rintro e w' ⟨rfl, rfl⟩
    rw [← HR.out]
    go_wp2
    go_ret
    exact ⟨rfl, rfl⟩
  by_cases h5 : st = 5
  · subst h5
    have HR0 := Lib.hid (hV.trans (step_5_true k))
    clear hV
    by_cases k2 : k = 2
    · have HR := Lib.hid (show V = 12 by rw [HR0.out, if_pos (by omega)])
      subst k2
      go_enter Tryz.func34, Tryz.ntmps34
      go_wp2
      go_ret
      exact ⟨by rw [HR.out]; first | done | rfl, rfl⟩
    · by_cases k3 : k = 3
      · have HR := Lib.hid (show V = 12 by rw [HR0.out, if_pos (by omega)])
        subst k3
        go_enter Tryz.func34, Tryz.ntmps34
        go_wp2
        go_ret
        exact ⟨by rw [HR.out]; first | done | rfl, rfl⟩
      · by_cases k4 : k = 4
        · have HR := Lib.hid (show V = 12 by rw [HR0.out, if_pos (by omega)])
          subst k4
          go_enter Tryz.func34, Tryz.ntmps34
          go_wp2
          go_ret
          exact ⟨by rw [HR.out]; first | done | rfl, rfl⟩
        · have HR := Lib.hid (HR0.out.trans (if_neg (by omega)))
          have e2 : ((k : Int) == 2) = false := by simp; omega
          have e3 : ((k : Int) == 3) = false := by simp; omega
          have e4 : ((k : Int) == 4) = false := by simp; omega
          clear k2 k3 k4
          go_enter Tryz.func34, Tryz.ntmps34
          go_wp2_with fail
          refine (either_any (k : Int) 1 6 10 10 (-2) 0 w).mono ?_
          rintro e w' ⟨rfl, rfl⟩
          rw [← HR.out]
          go_wp2
          go_ret
          exact ⟨rfl, rfl⟩
  by_cases h6 : st = 6
  · subst h6
    have HR0 := Lib.hid (hV.trans (step_6_true k))
    clear hV
    by_cases k2 : k = 11
    · have HR := Lib.hid (show V = 13 by rw [HR0.out, if_pos k2])
      subst k2
      go_enter Tryz.func34, Tryz.ntmps34
      go_wp2
      go_ret
      exact ⟨by rw [HR.out]; first | done | rfl, rfl⟩
    · have HR := Lib.hid (HR0.out.trans (if_neg k2))
      have e2 : ((k : Int) == 11) = false := by simp; omega
      clear k2
      go_enter Tryz.func34, Tryz.ntmps34
      go_wp2_with fail
      refine (either_any (k : Int) 5 7 7 5 8 20 w).mono ?_
      rintro e w' ⟨rfl, rfl⟩
      rw [← HR.out]
      go_wp2
      go_ret
      exact ⟨rfl, rfl⟩
  by_cases h8 : st = 8
  · subst h8
    have HR0 := Lib.hid (hV.trans (step_8_true k))
    clear hV
    have HR := HR0
    go_enter Tryz.func34, Tryz.ntmps34
    go_wp2_with fail
    refine (either_any (k : Int) 7 7 6 9 (-2) 0 w).mono ?_
    rintro e w' ⟨rfl, rfl⟩
    rw [← HR.out]
    go_wp2
    go_ret
    exact ⟨rfl, rfl⟩
  by_cases h9 : st = 9
  · subst h9
    have HR0 := Lib.hid (hV.trans (step_9_true k))
    clear hV
    have HR := HR0
    go_enter Tryz.func34, Tryz.ntmps34
    go_wp2_with fail
    refine (either_any (k : Int) 7 5 8 20 (-2) 0 w).mono ?_
    rintro e w' ⟨rfl, rfl⟩
    rw [← HR.out]
    go_wp2
    go_ret
    exact ⟨rfl, rfl⟩
  by_cases h14 : st = 14
  · subst h14
    have HR0 := Lib.hid (hV.trans (step_14_true k))
    clear hV
    have HR := HR0
    go_enter Tryz.func34, Tryz.ntmps34
    go_wp2_with fail
    refine (either_any (k : Int) 7 5 8 20 (-2) 0 w).mono ?_
    rintro e w' ⟨rfl, rfl⟩
    rw [← HR.out]
    go_wp2
    go_ret
    exact ⟨rfl, rfl⟩
  by_cases h10 : st = 10
  · subst h10
    have HR0 := Lib.hid (hV.trans (step_10_true k))
    clear hV
    have HR := HR0
    go_enter Tryz.func34, Tryz.ntmps34
    go_wp2_with fail
    refine (either_any (k : Int) 1 11 (-2) 0 (-2) 0 w).mono ?_
    rintro e w' ⟨rfl, rfl⟩
    rw [← HR.out]
    go_wp2
    go_ret
    exact ⟨rfl, rfl⟩
  by_cases h11 : st = 11
  · subst h11
    have HR0 := Lib.hid (hV.trans (step_11_true k))
    clear hV
    have HR := HR0
    go_enter Tryz.func34, Tryz.ntmps34
    go_wp2_with fail
    refine (either_any (k : Int) 5 7 7 5 8 20 w).mono ?_
    rintro e w' ⟨rfl, rfl⟩
    rw [← HR.out]
    go_wp2
    go_ret
    exact ⟨rfl, rfl⟩
  by_cases h12 : st = 12
  · subst h12
    have HR0 := Lib.hid (hV.trans (step_12_true k))
    clear hV
    have HR := HR0
    go_enter Tryz.func34, Tryz.ntmps34
    go_wp2_with fail
    refine (either_any (k : Int) 11 13 (-2) 0 (-2) 0 w).mono ?_
    rintro e w' ⟨rfl, rfl⟩
    rw [← HR.out]
    go_wp2
    go_ret
    exact ⟨rfl, rfl⟩
  by_cases h13 : st = 13
  · subst h13
    have HR0 := Lib.hid (hV.trans (step_13_true k))
    clear hV
    go_enter Tryz.func34, Tryz.ntmps34
    go_wp2_with fail
    refine (termKind_any k false w).mono ?_
    rintro e w' ⟨rfl, rfl⟩
    rw [show (!false) = true from rfl]
    cases hb : Gr.isT true k with
    | true =>
      have HV := Lib.hid (show V = 14 by rw [HR0.out, if_pos hb])
      clear hb HR0
      go_wp2
      go_ret
      exact ⟨by rw [HV.out]; first | done | rfl, rfl⟩
    | false =>
      have HV := Lib.hid (show V = -1 by rw [HR0.out, if_neg (by rw [hb]; simp)])
      clear hb HR0
      go_wp2
      go_ret
      exact ⟨by rw [HV.out]; first | done | rfl, rfl⟩
  have e0 : ((st : Int) == 0) = false := by simp; omega
  have e1 : ((st : Int) == 1) = false := by simp; omega
  have e2 : ((st : Int) == 2) = false := by simp; omega
  have e7 : ((st : Int) == 7) = false := by simp; omega
  have e3 : ((st : Int) == 3) = false := by simp; omega
  have e4 : ((st : Int) == 4) = false := by simp; omega
  have e5 : ((st : Int) == 5) = false := by simp; omega
  have e6 : ((st : Int) == 6) = false := by simp; omega
  have e8 : ((st : Int) == 8) = false := by simp; omega
  have e9 : ((st : Int) == 9) = false := by simp; omega
  have e14 : ((st : Int) == 14) = false := by simp; omega
  have e10 : ((st : Int) == 10) = false := by simp; omega
  have e11 : ((st : Int) == 11) = false := by simp; omega
  have e12 : ((st : Int) == 12) = false := by simp; omega
  have e13 : ((st : Int) == 13) = false := by simp; omega
  have HR := Lib.hid (hV.trans (step_far (by omega)))
  clear hV h0 h1 h2 h7 h3 h4 h5 h6 h8 h9 h14 h10 h11 h12 h13
  go_enter Tryz.func34, Tryz.ntmps34
  go_wp2_with fail
  refine (stepGround_any st k w).mono ?_
  rintro e w' ⟨rfl, rfl⟩
  rw [← HR.out]
  go_wp2
  go_ret
  exact ⟨rfl, rfl⟩
set_option maxRecDepth 100000 in
set_option maxHeartbeats 3200000 in
theorem step_any_false (st k mode : Nat) (w : World) (hm : ((mode : Int) == 2) = false) :
    Calls Tryz.prog 34 #[.int .i64 (st : Int), .int .i64 (k : Int), .int .i64 (mode : Int)] w fun e w' => e = .returned (.int .i64 (stepV st k false)) ∧ w' = w := by
  obtain ⟨V, hV⟩ : ∃ V, V = stepV st k false := ⟨_, rfl⟩
  rw [← hV]
  by_cases h0 : st = 0
  · subst h0
    have HR0 := Lib.hid (hV.trans (step_0_false k))
    clear hV
    have HR := HR0
    go_enter Tryz.func34, Tryz.ntmps34
    go_wp2_with fail
    refine (either_any (k : Int) 1 1 0 99 (-2) 0 w).mono ?_
    rintro e w' ⟨rfl, rfl⟩
    rw [← HR.out]
    go_wp2
    go_ret
    exact ⟨rfl, rfl⟩
  by_cases h1 : st = 1
  · subst h1
    have HR0 := Lib.hid (hV.trans (step_1_false k))
    clear hV
    have HR := HR0
    go_enter Tryz.func34, Tryz.ntmps34
    go_wp2_with fail
    refine (either_any (k : Int) 5 2 8 0 9 5 w).mono ?_
    rintro e w' ⟨rfl, rfl⟩
    rw [← HR.out]
    go_wp2
    go_ret
    exact ⟨rfl, rfl⟩
  by_cases h2 : st = 2
  · subst h2
    have HR0 := Lib.hid (hV.trans (step_2_false k))
    clear hV
    go_enter Tryz.func34, Tryz.ntmps34
    go_wp2_with fail
    refine (termKind_any k false w).mono ?_
    rintro e w' ⟨rfl, rfl⟩
    rw [show (!false) = true from rfl]
    cases hb : Gr.isT true k with
    | true =>
      have HV := Lib.hid (show V = 3 by rw [HR0.out, if_pos hb])
      clear hb HR0
      go_wp2
      go_ret
      exact ⟨by rw [HV.out]; first | done | rfl, rfl⟩
    | false =>
      have HV := Lib.hid (show V = -1 by rw [HR0.out, if_neg (by rw [hb]; simp)])
      clear hb HR0
      go_wp2
      go_ret
      exact ⟨by rw [HV.out]; first | done | rfl, rfl⟩
  by_cases h7 : st = 7
  · subst h7
    have HR0 := Lib.hid (hV.trans (step_7_false k))
    clear hV
    go_enter Tryz.func34, Tryz.ntmps34
    go_wp2_with fail
    refine (termKind_any k false w).mono ?_
    rintro e w' ⟨rfl, rfl⟩
    rw [show (!false) = true from rfl]
    cases hb : Gr.isT true k with
    | true =>
      have HV := Lib.hid (show V = 8 by rw [HR0.out, if_pos hb])
      clear hb HR0
      go_wp2
      go_ret
      exact ⟨by rw [HV.out]; first | done | rfl, rfl⟩
    | false =>
      have HV := Lib.hid (show V = -1 by rw [HR0.out, if_neg (by rw [hb]; simp)])
      clear hb HR0
      go_wp2
      go_ret
      exact ⟨by rw [HV.out]; first | done | rfl, rfl⟩
  by_cases h3 : st = 3
  · subst h3
    have HR0 := Lib.hid (hV.trans (step_3_false k))
    clear hV
    have HR := HR0
    go_enter Tryz.func34, Tryz.ntmps34
    go_wp2_with fail
    refine (either_any (k : Int) 7 2 6 4 (-2) 0 w).mono ?_
    rintro e w' ⟨rfl, rfl⟩
    rw [← HR.out]
    go_wp2
    go_ret
    exact ⟨rfl, rfl⟩
  by_cases h4 : st = 4
  · subst h4
    have HR0 := Lib.hid (hV.trans (step_4_false k))
    clear hV
    have HR := HR0
    go_enter Tryz.func34, Tryz.ntmps34
    go_wp2_with fail
    refine (either_any (k : Int) 8 0 9 5 (-2) 0 w).mono ?_
    rintro e w' ⟨rfl, rfl⟩
    rw [← HR.out]
    go_wp2
    go_ret
    exact ⟨rfl, rfl⟩
  by_cases h5 : st = 5
  · subst h5
    have HR0 := Lib.hid (hV.trans (step_5_false k))
    clear hV
    by_cases k2 : k = 2
    · have HR := Lib.hid (show V = 12 by rw [HR0.out, if_pos (by omega)])
      subst k2
      go_enter Tryz.func34, Tryz.ntmps34
      go_wp2
      go_ret
      exact ⟨by rw [HR.out]; first | done | rfl, rfl⟩
    · by_cases k3 : k = 3
      · have HR := Lib.hid (show V = 12 by rw [HR0.out, if_pos (by omega)])
        subst k3
        go_enter Tryz.func34, Tryz.ntmps34
        go_wp2
        go_ret
        exact ⟨by rw [HR.out]; first | done | rfl, rfl⟩
      · by_cases k4 : k = 4
        · have HR := Lib.hid (show V = 12 by rw [HR0.out, if_pos (by omega)])
          subst k4
          go_enter Tryz.func34, Tryz.ntmps34
          go_wp2
          go_ret
          exact ⟨by rw [HR.out]; first | done | rfl, rfl⟩
        · have HR := Lib.hid (HR0.out.trans (if_neg (by omega)))
          have e2 : ((k : Int) == 2) = false := by simp; omega
          have e3 : ((k : Int) == 3) = false := by simp; omega
          have e4 : ((k : Int) == 4) = false := by simp; omega
          clear k2 k3 k4
          go_enter Tryz.func34, Tryz.ntmps34
          go_wp2_with fail
          refine (either_any (k : Int) 1 6 10 10 (-2) 0 w).mono ?_
          rintro e w' ⟨rfl, rfl⟩
          rw [← HR.out]
          go_wp2
          go_ret
          exact ⟨rfl, rfl⟩
  by_cases h6 : st = 6
  · subst h6
    have HR0 := Lib.hid (hV.trans (step_6_false k))
    clear hV
    by_cases k2 : k = 11
    · have HR := Lib.hid (show V = 13 by rw [HR0.out, if_pos k2])
      subst k2
      go_enter Tryz.func34, Tryz.ntmps34
      go_wp2
      go_ret
      exact ⟨by rw [HR.out]; first | done | rfl, rfl⟩
    · have HR := Lib.hid (HR0.out.trans (if_neg k2))
      have e2 : ((k : Int) == 11) = false := by simp; omega
      clear k2
      go_enter Tryz.func34, Tryz.ntmps34
      go_wp2_with fail
      refine (either_any (k : Int) 5 7 7 5 8 0 w).mono ?_
      rintro e w' ⟨rfl, rfl⟩
      rw [← HR.out]
      go_wp2
      go_ret
      exact ⟨rfl, rfl⟩
  by_cases h8 : st = 8
  · subst h8
    have HR0 := Lib.hid (hV.trans (step_8_false k))
    clear hV
    have HR := HR0
    go_enter Tryz.func34, Tryz.ntmps34
    go_wp2_with fail
    refine (either_any (k : Int) 7 7 6 9 (-2) 0 w).mono ?_
    rintro e w' ⟨rfl, rfl⟩
    rw [← HR.out]
    go_wp2
    go_ret
    exact ⟨rfl, rfl⟩
  by_cases h9 : st = 9
  · subst h9
    have HR0 := Lib.hid (hV.trans (step_9_false k))
    clear hV
    have HR := HR0
    go_enter Tryz.func34, Tryz.ntmps34
    go_wp2_with fail
    refine (either_any (k : Int) 7 5 8 0 (-2) 0 w).mono ?_
    rintro e w' ⟨rfl, rfl⟩
    rw [← HR.out]
    go_wp2
    go_ret
    exact ⟨rfl, rfl⟩
  by_cases h14 : st = 14
  · subst h14
    have HR0 := Lib.hid (hV.trans (step_14_false k))
    clear hV
    have HR := HR0
    go_enter Tryz.func34, Tryz.ntmps34
    go_wp2_with fail
    refine (either_any (k : Int) 7 5 8 0 (-2) 0 w).mono ?_
    rintro e w' ⟨rfl, rfl⟩
    rw [← HR.out]
    go_wp2
    go_ret
    exact ⟨rfl, rfl⟩
  by_cases h10 : st = 10
  · subst h10
    have HR0 := Lib.hid (hV.trans (step_10_false k))
    clear hV
    have HR := HR0
    go_enter Tryz.func34, Tryz.ntmps34
    go_wp2_with fail
    refine (either_any (k : Int) 1 11 (-2) 0 (-2) 0 w).mono ?_
    rintro e w' ⟨rfl, rfl⟩
    rw [← HR.out]
    go_wp2
    go_ret
    exact ⟨rfl, rfl⟩
  by_cases h11 : st = 11
  · subst h11
    have HR0 := Lib.hid (hV.trans (step_11_false k))
    clear hV
    have HR := HR0
    go_enter Tryz.func34, Tryz.ntmps34
    go_wp2_with fail
    refine (either_any (k : Int) 5 7 7 5 8 0 w).mono ?_
    rintro e w' ⟨rfl, rfl⟩
    rw [← HR.out]
    go_wp2
    go_ret
    exact ⟨rfl, rfl⟩
  by_cases h12 : st = 12
  · subst h12
    have HR0 := Lib.hid (hV.trans (step_12_false k))
    clear hV
    have HR := HR0
    go_enter Tryz.func34, Tryz.ntmps34
    go_wp2_with fail
    refine (either_any (k : Int) 11 13 (-2) 0 (-2) 0 w).mono ?_
    rintro e w' ⟨rfl, rfl⟩
    rw [← HR.out]
    go_wp2
    go_ret
    exact ⟨rfl, rfl⟩
  by_cases h13 : st = 13
  · subst h13
    have HR0 := Lib.hid (hV.trans (step_13_false k))
    clear hV
    go_enter Tryz.func34, Tryz.ntmps34
    go_wp2_with fail
    refine (termKind_any k false w).mono ?_
    rintro e w' ⟨rfl, rfl⟩
    rw [show (!false) = true from rfl]
    cases hb : Gr.isT true k with
    | true =>
      have HV := Lib.hid (show V = 14 by rw [HR0.out, if_pos hb])
      clear hb HR0
      go_wp2
      go_ret
      exact ⟨by rw [HV.out]; first | done | rfl, rfl⟩
    | false =>
      have HV := Lib.hid (show V = -1 by rw [HR0.out, if_neg (by rw [hb]; simp)])
      clear hb HR0
      go_wp2
      go_ret
      exact ⟨by rw [HV.out]; first | done | rfl, rfl⟩
  have e0 : ((st : Int) == 0) = false := by simp; omega
  have e1 : ((st : Int) == 1) = false := by simp; omega
  have e2 : ((st : Int) == 2) = false := by simp; omega
  have e7 : ((st : Int) == 7) = false := by simp; omega
  have e3 : ((st : Int) == 3) = false := by simp; omega
  have e4 : ((st : Int) == 4) = false := by simp; omega
  have e5 : ((st : Int) == 5) = false := by simp; omega
  have e6 : ((st : Int) == 6) = false := by simp; omega
  have e8 : ((st : Int) == 8) = false := by simp; omega
  have e9 : ((st : Int) == 9) = false := by simp; omega
  have e14 : ((st : Int) == 14) = false := by simp; omega
  have e10 : ((st : Int) == 10) = false := by simp; omega
  have e11 : ((st : Int) == 11) = false := by simp; omega
  have e12 : ((st : Int) == 12) = false := by simp; omega
  have e13 : ((st : Int) == 13) = false := by simp; omega
  have HR := Lib.hid (hV.trans (step_far (by omega)))
  clear hV h0 h1 h2 h7 h3 h4 h5 h6 h8 h9 h14 h10 h11 h12 h13
  go_enter Tryz.func34, Tryz.ntmps34
  go_wp2_with fail
  refine (stepGround_any st k w).mono ?_
  rintro e w' ⟨rfl, rfl⟩
  rw [← HR.out]
  go_wp2
  go_ret
  exact ⟨rfl, rfl⟩
end Go.Proofs.YtncdjkdpoinfaaaGreatDoor
/-
  The walks of the automaton's first state, of a mark, of what can begin a literal. No condition.
-/
namespace Go.Proofs.YtncdjkdpoinfaaaGreatDoor
open Go.RowKit Go.Shelf Pl

def beginsV (m : Int) : Int := if m = 1 then 30 else if m = 2 then 5 else if m = 3 then 40 else 0
set_option maxRecDepth 100000 in
theorem begins_any (m : Int) (w : World) : Calls Tryz.prog 33 #[.int .i64 m] w fun e w' => e = .returned (.int .i64 (beginsV m)) ∧ w' = w := by
  by_cases h1 : m = 1
  · subst h1
    go_enter Tryz.func33, Tryz.ntmps33
    go_wp2
    go_ret
    exact ⟨rfl, rfl⟩
  · by_cases h2 : m = 2
    · subst h2
      go_enter Tryz.func33, Tryz.ntmps33
      go_wp2
      go_ret
      exact ⟨rfl, rfl⟩
    · by_cases h3 : m = 3
      · subst h3
        go_enter Tryz.func33, Tryz.ntmps33
        go_wp2
        go_ret
        exact ⟨rfl, rfl⟩
      · have HR := Lib.hid (show beginsV m = 0 by unfold beginsV; rw [if_neg h1, if_neg h2, if_neg h3])
        have e1 : (m == 1) = false := by simpa using h1
        have e2 : (m == 2) = false := by simpa using h2
        have e3 : (m == 3) = false := by simpa using h3
        clear h1 h2 h3
        go_enter Tryz.func33, Tryz.ntmps33
        go_wp2
        go_ret
        exact ⟨by rw [HR.out]; first | done | rfl, rfl⟩
/-- Can a token of this kind begin a literal? -/
def beginB (k : Nat) : Bool := decide (k = 10) || Gr.isT true k
set_option maxRecDepth 100000 in
theorem canBegin_any (k : Nat) (w : World) : Calls Tryz.prog 48 #[.int .i64 (k : Int)] w fun e w' => e = .returned (.bool (beginB k)) ∧ w' = w := by
  by_cases h : k = 10
  · subst h
    go_enter Tryz.func48, Tryz.ntmps48
    go_wp2
    go_ret
    exact ⟨rfl, rfl⟩
  · have HR := Lib.hid (show beginB k = Gr.isT true k by unfold beginB; simp [h])
    have e1 : ((k : Int) == 10) = false := by simp; omega
    clear h
    go_enter Tryz.func48, Tryz.ntmps48
    go_wp2_with fail
    refine (isTerm_any k true w).mono ?_
    rintro e w' ⟨rfl, rfl⟩
    go_wp2
    go_ret
    exact ⟨by rw [HR.out]; first | done | rfl, rfl⟩
end Go.Proofs.YtncdjkdpoinfaaaGreatDoor
/-
  The walks of a mark and of a term's token. No condition.
-/
namespace Go.Proofs.YtncdjkdpoinfaaaGreatDoor
open Go.RowKit Go.Shelf Pl

/-- A token whose place a program does not tell. -/
def markV (k : Int) : Value := .agg #[.int .i64 k, .string noS, .int .i64 0, .int .i64 0, .int .i64 0, .int .i64 (-1)]
set_option maxRecDepth 100000 in
theorem mark_any (k : Int) (w : World) : Calls Tryz.prog 14 #[.int .i64 k] w fun e w' => e = .returned (markV k) ∧ Below w.heap.size w w' := by
  go_enter Tryz.func14, Tryz.ntmps14
  go_wp2
  refine bodyPost_ret (results_cell_row rfl _ _ w.heap.size 62 #[.int .i64 k, .string noS, .int .i64 0, .int .i64 0, .int .i64 0, .int .i64 (-1)] (0, 0) _ rfl (heap_alloc_new _ _) Tryz.underlying62 rfl Tryz.size32) rfl ?_
  exact ⟨rfl, up_alloc w _⟩
/-- A term as a value. -/
def TermV (kind : Nat) (int : Int) (text : ByteArray) (off : Nat) : Value := .agg #[.int .i64 (kind : Int), .int .i64 int, .string text, .int .i64 (off : Int)]
/-- The kind of a term's token. -/
def tokKind (k : Nat) : Nat := if k = 1 then 3 else if k = 2 then 1 else if k = 3 then 4 else 2
theorem second_heap (w : World) (o p : Obj) : ((w.alloc o).alloc p).heap[w.heap.size + 1]? = some p := by
  have := heap_alloc_new (w.alloc o) p
  simpa using this
set_option maxRecDepth 100000 in
theorem flatTerm_any (kind : Nat) (int : Int) (text : ByteArray) (off : Nat) (w : World) (hk : kind = 1 ∨ kind = 2 ∨ kind = 3 ∨ kind = 4) :
    Calls Tryz.prog 35 #[TermV kind int text off] w fun e w' => e = .returned (TokV (tokKind kind) text int 0 off 0) ∧ Below w.heap.size w w' := by
  unfold TermV
  rcases hk with rfl | rfl | rfl | rfl
  · go_enter Tryz.func35, Tryz.ntmps35
    go_wp2
    refine bodyPost_ret (results_cell_row rfl _ _ (w.heap.size + 1) 62 #[.int .i64 3, .string text, .int .i64 int, .int .i64 0, .int .i64 (off : Int), .int .i64 0] (0, 0) _ rfl (second_heap w _ _) Tryz.underlying62 rfl Tryz.size32) rfl ?_
    exact ⟨rfl, (up_alloc w _).alloc (by simp) _⟩
  · go_enter Tryz.func35, Tryz.ntmps35
    go_wp2
    refine bodyPost_ret (results_cell_row rfl _ _ (w.heap.size + 1) 62 #[.int .i64 1, .string text, .int .i64 int, .int .i64 0, .int .i64 (off : Int), .int .i64 0] (0, 0) _ rfl (second_heap w _ _) Tryz.underlying62 rfl Tryz.size32) rfl ?_
    exact ⟨rfl, (up_alloc w _).alloc (by simp) _⟩
  · go_enter Tryz.func35, Tryz.ntmps35
    go_wp2
    refine bodyPost_ret (results_cell_row rfl _ _ (w.heap.size + 1) 62 #[.int .i64 4, .string text, .int .i64 int, .int .i64 0, .int .i64 (off : Int), .int .i64 0] (0, 0) _ rfl (second_heap w _ _) Tryz.underlying62 rfl Tryz.size32) rfl ?_
    exact ⟨rfl, (up_alloc w _).alloc (by simp) _⟩
  · go_enter Tryz.func35, Tryz.ntmps35
    go_wp2
    refine bodyPost_ret (results_cell_row rfl _ _ (w.heap.size + 1) 62 #[.int .i64 2, .string text, .int .i64 int, .int .i64 0, .int .i64 (off : Int), .int .i64 0] (0, 0) _ rfl (second_heap w _ _) Tryz.underlying62 rfl Tryz.size32) rfl ?_
    exact ⟨rfl, (up_alloc w _).alloc (by simp) _⟩
end Go.Proofs.YtncdjkdpoinfaaaGreatDoor
/-
  A region that draws its order, whose last operation waits for all reads: reads that yield the same in every world that meets S are taken first; S is to be shown behind every other operation but the last. No condition beyond those that each lemma states.
-/
namespace Go.Proofs.YtncdjkdpoinfaaaGreatDoor
open Go

section
variable {P : Program} {ops : Array Oper} {Q : Exit → Act → World → Prop} {md : Region.Mode} {S : World → Prop} {last : Nat}

/-- Whatever order is picked from here on, and S holds behind every operation but the last. -/
def wpAnyT (P : Program) (md : Region.Mode) (ops : Array Oper) (Q : Exit → Act → World → Prop) (S : World → Prop) (last : Nat) : Nat → Array Bool → Act → World → Prop
  | 0, listed, a, w => Region.ready md ops listed = [] ∧ Q .normal a w
  | fuel + 1, listed, a, w =>
    (Region.ready md ops listed = [] → Q .normal a w) ∧
    ∀ i ∈ Region.ready md ops listed, wpOp P ops Q i (fun a' w' => (i ≠ last → S w') ∧ wpAnyT P md ops Q S last fuel (listed.setIfInBounds i true) a' w') a w

theorem wpAny_of_T : ∀ (fuel : Nat) (listed : Array Bool) (a : Act) (w : World), wpAnyT P md ops Q S last fuel listed a w → wpAny P md ops Q fuel listed a w
  | 0, _, _, _, h => h
  | fuel + 1, _, _, _, h => ⟨h.1, fun i hi => wpOp_mono (fun a' w' h' => wpAny_of_T fuel _ a' w' h'.2) (h.2 i hi)⟩

theorem wpAnyT_first {i : Nat} {oi : Oper} {v : Value} (hi : ops[i]? = some oi) (hsel : ∀ (j : Nat) (o : Oper) cs b, ops[j]? = some o → o.op ≠ .select cs b)
    (hlast : Region.waitsFor md ops last i = true)
    (hQ : ∀ c a w, Q (.panic c) (a.put oi.dst v) w → Q (.panic c) a w) :
    ∀ (fuel : Nat) (listed : Array Bool) (a : Act) (w : World),
      (∀ j oj, ops[j]? = some oj → j ≠ i → listed.getD j true = false → (∀ e ∈ oj.after, Region.binds md e = true → e.on ≠ i) → oi.apart ops oj = true) →
      i ∈ Region.ready md ops listed → YieldsIf P ops S oi v a → S w →
      wpAnyT P md ops Q S last fuel (listed.setIfInBounds i true) (a.put oi.dst v) w → wpAnyT P md ops Q S last (fuel + 1) listed a w := by
  intro fuel
  induction fuel with
  | zero =>
    intro listed a w _ hr hy hS H
    refine ⟨fun h => (by rw [h] at hr; cases hr), fun j hj => ?_⟩
    by_cases hji : j = i
    · subst hji; exact hy.wpOp hi hS ⟨fun _ => hS, H⟩
    · have := ready_mono hj hji
      rw [H.1] at this
      cases this
  | succ fuel ih =>
    intro listed a w hfree hr hy hS H
    refine ⟨fun h => (by rw [h] at hr; cases hr), fun j hj => ?_⟩
    by_cases hji : j = i
    · subst hji; exact hy.wpOp hi hS ⟨fun _ => hS, H⟩
    · have h1 := H.2 j (ready_mono hj hji)
      obtain ⟨hjun, oj, hoj, hall⟩ := mem_ready.1 hj
      have hnot : ∀ e ∈ oj.after, Region.binds md e = true → e.on ≠ i := fun e he hb heq => by
        have h1 := hall e he hb
        have h0 := (mem_ready.1 hr).1
        rw [heq] at h1
        rcases Nat.lt_or_ge i listed.size with h' | h'
        · simp [h'] at h0 h1; rw [h0] at h1; cases h1
        · simp [Array.getElem?_eq_none h'] at h1
      have hjl : j ≠ last := fun e => by
        subst e
        obtain ⟨ol, hol, e, he, hb, heq⟩ := Region.waitsFor_spec hlast
        obtain rfl : ol = oj := Option.some.inj (hol.symm.trans hoj)
        exact hnot e he hb heq
      have h2 := wpOp_putIf hoj (hfree j oj hoj hji hjun hnot) (fun cs b => hsel i oi cs b hi) (fun cs b => hsel j oj cs b hoj) hQ hy h1
      have hfree' : ∀ k ok, ops[k]? = some ok → k ≠ i → (listed.setIfInBounds j true).getD k true = false →
          (∀ e ∈ ok.after, Region.binds md e = true → e.on ≠ i) → oi.apart ops ok = true := fun k ok hk hki hun hno => by
        refine hfree k ok hk hki ?_ hno
        by_cases hjk : j = k
        · subst hjk; exact hjun
        · rw [getD_set_ne true hjk] at hun; exact hun
      refine wpOp_mono (fun a' w' h3 => ⟨h3.2.1, ih (listed.setIfInBounds j true) a' w' hfree' (ready_mono hr (Ne.symm hji)) h3.1 (h3.2.1 hjl) ?_⟩) h2
      rw [Array.setIfInBounds_comm _ _ hji]
      exact h3.2.2

/-- Take number i first. -/
theorem wpAnyT_take (i : Nat) {oi : Oper} {d : Option Tmp} {v : Value} {fuel : Nat} {listed : Array Bool} {a : Act} {w : World} (hi : ops[i]? = some oi) (hd : oi.dst = d)
    (hc : (Region.noSelect ops && Region.free md ops listed i && (Region.ready md ops listed).contains i && Region.waitsFor md ops last i) = true)
    (hQ : ∀ c a w, Q (.panic c) (a.put d v) w → Q (.panic c) a w) (hS : S w) (hy : YieldsIf P ops S oi v a)
    (h : wpAnyT P md ops Q S last fuel (listed.setIfInBounds i true) (a.put d v) w) : wpAnyT P md ops Q S last (fuel + 1) listed a w := by
  subst hd
  simp only [Bool.and_eq_true] at hc
  exact wpAnyT_first hi (Region.noSelect_spec hc.1.1.1) hc.2 hQ fuel listed a w (Region.free_spec hi hc.1.1.2) (by simpa using hc.1.2) hy hS h

/-- Number i alone may come up. -/
theorem wpAnyT_one (i : Nat) {oi : Oper} {fuel : Nat} {listed : Array Bool} {a : Act} {w : World} (hi : ops[i]? = some oi) (hr : Region.ready md ops listed = [i])
    (h : ∀ K' : Act → World → Prop, (∀ a' w', (i ≠ last → S w') → wpAnyT P md ops Q S last fuel (listed.setIfInBounds i true) a' w' → K' a' w') →
      if Region.wanted oi (yielded ops a.tmps) = true then Oper.wp P oi a w K' Q else K' (a.put oi.dst undef) w) : wpAnyT P md ops Q S last (fuel + 1) listed a w := by
  refine ⟨fun h0 => (by rw [hr] at h0; cases h0), fun j hj => ?_⟩
  rw [hr] at hj
  obtain rfl : j = i := by simpa using hj
  exact wpOp_step hi (fun K' hK => h K' (fun a' w' h1 h2 => hK a' w' ⟨h1, h2⟩))

theorem wpAnyT_done {listed : Array Bool} {a : Act} {w : World} (hr : Region.ready md ops listed = []) (h : Q .normal a w) : ∀ fuel, wpAnyT P md ops Q S last fuel listed a w
  | 0 => ⟨hr, h⟩
  | _ + 1 => ⟨fun _ => h, by rw [hr]; simp⟩

theorem wp_region_T {id : Nat} {a : Act} {w : World} (S : World → Prop) (last : Nat) (hm : P.follows .mixedOrders = true)
    (h : wpAnyT P .any ops Q S last ops.size (Array.replicate ops.size false) a w.drew) : (Code.region id ops true).wp P Q a w :=
  wp_region_any hm (wpAny_of_T _ _ _ _ h)

/-- The same, over the list of what is left in the text's order. -/
def wpTL (P : Program) (md : Region.Mode) (l0 : List Oper) (Q : Exit → Act → World → Prop) (S : World → Prop) (last k : Nat) (listed : Array Bool) (l : List Oper) (a : Act) (w : World) : Prop :=
  (∀ j, l[j]? = l0[k + j]?) → wpAnyT P md l0.toArray Q S last l.length listed a w

variable {l0 rest : List Oper} {k : Nat} {listed : Array Bool} {a : Act} {w : World} {o p : Oper}
theorem cons_at (h : ∀ j, (o :: rest)[j]? = l0[k + j]?) : l0.toArray[k]? = some o ∧ ∀ j, rest[j]? = l0[k + 1 + j]? := by
  refine ⟨by have := h 0; simpa using this.symm, fun j => ?_⟩
  have := h (j + 1)
  rw [show k + (j + 1) = k + 1 + j by omega] at this
  simpa using this
def takeB (md : Region.Mode) (ops : Array Oper) (listed : Array Bool) (last i : Nat) : Bool :=
  Region.noSelect ops && Region.free md ops listed i && (Region.ready md ops listed).contains i && Region.waitsFor md ops last i
theorem wpTL_take (d : Option Tmp) (v : Value) (hd : o.dst = d) (hc : takeB md l0.toArray listed last k = true) (hQ : ∀ c a w, Q (.panic c) (a.put d v) w → Q (.panic c) a w) (hS : S w)
    (hy : YieldsIf P l0.toArray S o v a) (h : wpTL P md l0 Q S last (k + 1) (listed.setIfInBounds k true) rest (a.put d v) w) : wpTL P md l0 Q S last k listed (o :: rest) a w := fun hl => by
  obtain ⟨h1, h2⟩ := cons_at hl
  exact wpAnyT_take k h1 hd hc hQ hS hy (h h2)
theorem wpTL_one (hr : Region.ready md l0.toArray listed = [k])
    (h : ∀ K' : Act → World → Prop, (∀ a' w', (k ≠ last → S w') → wpTL P md l0 Q S last (k + 1) (listed.setIfInBounds k true) rest a' w' → K' a' w') →
      if Region.wanted o (yielded l0.toArray a.tmps) = true then Oper.wp P o a w K' Q else K' (a.put o.dst undef) w) : wpTL P md l0 Q S last k listed (o :: rest) a w := fun hl => by
  obtain ⟨h1, h2⟩ := cons_at hl
  exact wpAnyT_one k h1 hr (fun K' hK => h K' (fun a' w' hS hT => hK a' w' hS (hT h2)))
/-- The second one, a read, ahead of the first. -/
theorem wpTL_pair (d : Option Tmp) (v : Value) (hd : p.dst = d) (hc : takeB md l0.toArray listed last (k + 1) = true) (hQ : ∀ c a w, Q (.panic c) (a.put d v) w → Q (.panic c) a w) (hS : S w)
    (hy : YieldsIf P l0.toArray S p v a) (a2 : Act) (he : a.put d v = a2) (hr : Region.ready md l0.toArray (listed.setIfInBounds (k + 1) true) = [k])
    (h : ∀ K' : Act → World → Prop, (∀ a' w', (k ≠ last → S w') → wpTL P md l0 Q S last (k + 1 + 1) ((listed.setIfInBounds (k + 1) true).setIfInBounds k true) rest a' w' → K' a' w') →
      if Region.wanted o (yielded l0.toArray a2.tmps) = true then Oper.wp P o a2 w K' Q else K' (a2.put o.dst undef) w) : wpTL P md l0 Q S last k listed (o :: p :: rest) a w := fun hl => by
  subst he
  obtain ⟨h1, h2⟩ := cons_at hl
  obtain ⟨h3, h4⟩ := cons_at h2
  exact wpAnyT_take (k + 1) h3 hd hc hQ hS hy (wpAnyT_one k h1 hr (fun K' hK => h K' (fun a' w' hS hT => hK a' w' hS (hT h4))))
theorem wpTL_nil (hr : Region.ready md l0.toArray listed = []) (h : Q .normal a w) : wpTL P md l0 Q S last k listed [] a w := fun _ => wpAnyT_done hr h _
theorem wp_region_TL {id : Nat} (S : World → Prop) (last : Nat) (hm : P.follows .mixedOrders = true)
    (h : wpTL P .any l0 Q S last 0 (Array.replicate l0.toArray.size false) l0 a w.drew) : (Code.region id l0.toArray true).wp P Q a w := by
  refine wp_region_T S last hm ?_
  have := h (fun j => by simp)
  simpa using this

end
end Go.Proofs.YtncdjkdpoinfaaaGreatDoor
/-
  The parser's reader in memory, and what stays as it was: told by the types of blocks. No condition beyond those that each lemma states.
-/
namespace Go.Proofs.YtncdjkdpoinfaaaGreatDoor
open Go.RowKit Go.Shelf Pl

/-- The blocks of some types are as they were. -/
def Kt (T : TypeId → Prop) (w w' : World) : Prop := ∀ (k : Nat) (c : Array Value) (t : TypeId), w.heap[k]? = some (Obj.cells c t (0, 0)) → T t → w'.heap[k]? = some (Obj.cells c t (0, 0))
section
variable {T T' : TypeId → Prop} {w w' w2 : World}
theorem Kt.refl (T : TypeId → Prop) (w : World) : Kt T w w := fun _ _ _ h _ => h
theorem Kt.trans (h : Kt T w w') (k : Kt T w' w2) : Kt T w w2 := fun i c t e ht => k i c t (h i c t e ht) ht
theorem Kt.weak (h : Kt T w w') (hT : ∀ t, T' t → T t) : Kt T' w w' := fun i c t e ht => h i c t e (hT t ht)
theorem Kt.below (h : Below w.heap.size w w') : Kt T w w' := fun k c t e _ => by rw [h.block k (Array.getElem?_eq_some_iff.1 e).1]; exact e
theorem Kt.alloc (w : World) (o : Obj) : Kt T w (w.alloc o) := Kt.below (up_alloc w o)
theorem Kt.drewN (w : World) (n : Nat) : Kt T w (w.drewN n) := fun _ _ _ h _ => h
theorem Kt.drew (w : World) : Kt T w w.drew := fun _ _ _ h _ => h
theorem Kt.bes {X : Nat} {c : Array Value} {t0 : TypeId} (h : Bes X w w') (hX : w.heap[X]? = some (.cells c t0 (0, 0))) (hT : ¬ T t0) : Kt T w w' := fun k d t e ht => by
  rw [h.block k (Array.getElem?_eq_some_iff.1 e).1 (fun hk => by rw [hk, hX] at e; simp at e; exact hT (by rw [e.2]; exact ht))]; exact e
theorem Kt.set {p : Addr} {c : Array Value} {t0 : TypeId} {v : Value} (hp : w.heap[p.block]? = some (.cells c t0 (0, 0))) (hT : ¬ T t0) : Kt T w (w.setCell p v) := fun k d t e ht => by
  rw [Below.heap_setCell _ _ _ _ (fun hk => by rw [hk, hp] at e; simp at e; exact hT (by rw [e.2]; exact ht))]; exact e
theorem Kt.own {B t m n : Nat} {v : Value} {xs : List Value} (h : Kt T w w') (hT : T t) (ho : w.ownsRow B t m v n xs) : w'.ownsRow B t m v n xs := by
  obtain ⟨h1, h2⟩ := ho
  refine ⟨h1, ?_⟩
  rcases h2 with h2 | ⟨g, cap, cur, hv, hg, hh, r⟩
  · exact Or.inl h2
  · exact Or.inr ⟨g, cap, cur, hv, hg, h g cur t hh hT, r⟩
/-- A list that grows: other types stand still. -/
theorem Kt.grown {B t m n : Nat} {v : Value} {xs : List Value} (h : w.grownBy w' v.ownBlock) (ho : w.ownsRow B t m v n xs) (hT : ¬ T t) : Kt T w w' := fun k c t' e ht => by
  rw [h.block k (Array.getElem?_eq_some_iff.1 e).1 (fun hk => by
    rcases ho.2 with ⟨rfl, _⟩ | ⟨g, cap, cur, rfl, hg, hh, r⟩
    · cases hk
    · simp [Value.ownBlock] at hk
      rw [hk, hh] at e; simp at e
      exact hT (by rw [e.2]; exact ht))]; exact e
/-- A list of the call's own that grows: whatever was there stands still. -/
theorem grown_bes {X B t m n : Nat} {w0 : World} {v : Value} {xs : List Value} (hb : Bes X w0 w) (h : w.grownBy w' v.ownBlock) (ho : w.ownsRow B t m v n xs) (hB : w0.heap.size ≤ B) : Bes X w0 w' := by
  refine ⟨h.os.trans hb.os, h.tape.trans hb.tape, h.output.trans hb.output, Nat.le_trans hb.size h.size, fun k hk hx => ?_⟩
  rw [h.block k (Nat.lt_of_lt_of_le hk hb.size) (fun e => ?_)]
  · exact hb.block k hk hx
  · have := (World.ownsRow.lt ho k e.symm).1
    omega
end

/-- The parser's reader: its tokens, where it stands, its fault. -/
structure Rdr (w : World) (X : Nat) (v : Value) (ts : List Tk) (a : Nat) (f : Gr.Flt) : Prop where
  row : w.heap[X]? = some (.cells #[v, .int .i64 (a : Int), .int .i64 (f.1 : Int), .int .i64 0, .int .i64 (f.2 : Int)] 90)
  own : w.ownsRow 0 62 6 v ts.length (flatT ts)
  le : a ≤ ts.length
  few : ts.length ≤ 70000
section
variable {w w' : World} {X : Nat} {v : Value} {ts : List Tk} {a q : Nat} {f : Gr.Flt}
theorem Rdr.kt {T : TypeId → Prop} (h : Rdr w X v ts a f) (k : Kt T w w') (h1 : T 90) (h2 : T 62) : Rdr w' X v ts a f :=
  ⟨k X _ _ h.row h1, k.own h2 h.own, h.le, h.few⟩
theorem Rdr.below (h : Rdr w X v ts a f) (hb : Below w.heap.size w w') : Rdr w' X v ts a f := h.kt (T := fun _ => True) (Kt.below hb) trivial trivial
theorem Rdr.alloc (h : Rdr w X v ts a f) (o : Obj) : Rdr (w.alloc o) X v ts a f := h.below (up_alloc w o)
theorem Rdr.drew (h : Rdr w X v ts a f) : Rdr w.drew X v ts a f := h.kt (T := fun _ => True) (Kt.drew w) trivial trivial
theorem Rdr.drewN (h : Rdr w X v ts a f) (n : Nat) : Rdr (w.drewN n) X v ts a f := h.kt (T := fun _ => True) (Kt.drewN w n) trivial trivial
theorem Rdr.lt (h : Rdr w X v ts a f) : X < w.heap.size := (Array.getElem?_eq_some_iff.1 h.row).1
theorem Rdr.set (h : Rdr w X v ts a f) (hq : q ≤ ts.length) : Rdr (w.setCell ⟨X, 1, none⟩ (.int .i64 (q : Int))) X v ts q f := by
  refine ⟨?_, (Kt.set (T := fun t => t = 62) h.row (by decide)).own rfl h.own, hq, h.few⟩
  have := h.row
  simp [World.setCell, Array.getElem?_modify, this]
theorem Rdr.turn (h : Rdr w X v ts a f) (hb : Bes X w w') (hr : w'.heap[X]? = some (.cells #[v, .int .i64 (q : Int), .int .i64 (f.1 : Int), .int .i64 0, .int .i64 (f.2 : Int)] 90)) (hq : q ≤ ts.length) : Rdr w' X v ts q f :=
  ⟨hr, (Kt.bes (T := fun t => t = 62) hb h.row (by decide)).own rfl h.own, hq, h.few⟩
theorem Rdr.cells (h : Rdr w X v ts a f) : w.cell? ⟨X, 0, none⟩ = some v ∧ w.cell? ⟨X, 1, none⟩ = some (.int .i64 (a : Int)) ∧ w.cell? ⟨X, 2, none⟩ = some (.int .i64 (f.1 : Int)) ∧ w.cell? ⟨X, 4, none⟩ = some (.int .i64 (f.2 : Int)) ∧ w.frozen? ⟨X, 1, none⟩ = false := by
  refine ⟨?_, ?_, ?_, ?_, ?_⟩ <;> simp only [World.cell?, World.frozen?, h.row] <;> rfl
theorem Rdr.slice (h : Rdr w X v ts a f) : ∃ va vc, v = .slice va ts.length vc := by
  rcases Joins.ownsRow_forms h.own with ⟨h5, h6⟩ | ⟨g, cap, h5⟩
  · exact ⟨none, 0, by rw [h5, h6]⟩
  · exact ⟨_, cap, h5⟩
theorem drop_at {t : Tk} {r : List Tk} (h : ts.drop a = t :: r) : ∃ hlt : a < ts.length, ts[a] = t ∧ ts.drop (a + 1) = r := by
  have hlt : a < ts.length := by
    rcases Nat.lt_or_ge a ts.length with hl | hl
    · exact hl
    · rw [List.drop_eq_nil_of_le hl] at h; cases h
  rw [List.drop_eq_getElem_cons hlt] at h
  injection h with h1 h2
  exact ⟨hlt, h1, h2⟩
theorem Rdr.tok (h : Rdr w X v ts a f) {t : Tk} {r : List Tk} (hd : ts.drop a = t :: r) : ∃ g cap, v = .slice (some ⟨g, 0, none⟩) ts.length cap ∧
    w.cell? ⟨g, a * 6, none⟩ = some (.int .i64 (t.kind : Int)) ∧ w.cell? ⟨g, a * 6 + 1, none⟩ = some (.string ⟨t.text.toArray⟩) ∧ w.cell? ⟨g, a * 6 + 2, none⟩ = some (.int .i64 t.int) ∧
    w.cell? ⟨g, a * 6 + 3, none⟩ = some (.int .i64 (t.op : Int)) ∧ w.cell? ⟨g, a * 6 + 4, none⟩ = some (.int .i64 (t.off : Int)) ∧ w.cell? ⟨g, a * 6 + 5, none⟩ = some (.int .i64 (t.fin : Int)) := by
  obtain ⟨hlt, h1, _⟩ := drop_at hd
  have ho := h.own
  obtain ⟨g, cap, rfl⟩ := Joins.ownsRow_form ho (by omega)
  have hc := tok_cells ho hlt
  rw [h1] at hc
  exact ⟨g, cap, rfl, hc⟩
theorem Rdr.tokAt {g cap n : Nat} (h : Rdr w X (.slice (some ⟨g, 0, none⟩) n cap) ts a f) {t : Tk} {r : List Tk} (hd : ts.drop a = t :: r) : n = ts.length ∧
    w.cell? ⟨g, a * 6, none⟩ = some (.int .i64 (t.kind : Int)) ∧ w.cell? ⟨g, a * 6 + 1, none⟩ = some (.string ⟨t.text.toArray⟩) ∧ w.cell? ⟨g, a * 6 + 2, none⟩ = some (.int .i64 t.int) ∧
    w.cell? ⟨g, a * 6 + 3, none⟩ = some (.int .i64 (t.op : Int)) ∧ w.cell? ⟨g, a * 6 + 4, none⟩ = some (.int .i64 (t.off : Int)) ∧ w.cell? ⟨g, a * 6 + 5, none⟩ = some (.int .i64 (t.fin : Int)) := by
  obtain ⟨g', cap', e, hc⟩ := h.tok hd
  injection e with e1 e2 e3
  injection e1 with e1
  injection e1 with e1
  subst e1
  exact ⟨e2, hc⟩
end
theorem six_set {w : World} {R : Nat} {x0 x1 x2 x3 x4 x5 u0 u1 u2 u3 u4 u5 : Value} (h : w.heap[R]? = some (.cells #[u0, u1, u2, u3, u4, u5] 62)) :
    ((((((w.setCell ⟨R, 0, none⟩ x0).setCell ⟨R, 1, none⟩ x1).setCell ⟨R, 2, none⟩ x2).setCell ⟨R, 3, none⟩ x3).setCell ⟨R, 4, none⟩ x4).setCell ⟨R, 5, none⟩ x5).heap[R]? = some (.cells #[x0, x1, x2, x3, x4, x5] 62) := by
  simp [World.setCell, Array.getElem?_modify, h]
theorem six_below {w0 w : World} {B R : Nat} {x0 x1 x2 x3 x4 x5 : Value} (h : Below B w0 w) (hR : B ≤ R) :
    Below B w0 ((((((w.setCell ⟨R, 0, none⟩ x0).setCell ⟨R, 1, none⟩ x1).setCell ⟨R, 2, none⟩ x2).setCell ⟨R, 3, none⟩ x3).setCell ⟨R, 4, none⟩ x4).setCell ⟨R, 5, none⟩ x5) :=
  (((((h.setCell hR _).setCell hR _).setCell hR _).setCell hR _).setCell hR _).setCell hR _
theorem six_bes {w0 w : World} {X R : Nat} {x0 x1 x2 x3 x4 x5 : Value} (h : Bes X w0 w) (hR : w0.heap.size ≤ R) :
    Bes X w0 ((((((w.setCell ⟨R, 0, none⟩ x0).setCell ⟨R, 1, none⟩ x1).setCell ⟨R, 2, none⟩ x2).setCell ⟨R, 3, none⟩ x3).setCell ⟨R, 4, none⟩ x4).setCell ⟨R, 5, none⟩ x5) :=
  (((((h.set (.inr hR) _).set (.inr hR) _).set (.inr hR) _).set (.inr hR) _).set (.inr hR) _).set (.inr hR) _
theorem six_oth {w : World} {k R : Nat} {x0 x1 x2 x3 x4 x5 : Value} (h : k ≠ R) :
    ((((((w.setCell ⟨R, 0, none⟩ x0).setCell ⟨R, 1, none⟩ x1).setCell ⟨R, 2, none⟩ x2).setCell ⟨R, 3, none⟩ x3).setCell ⟨R, 4, none⟩ x4).setCell ⟨R, 5, none⟩ x5).heap[k]? = w.heap[k]? := by
  rw [Below.heap_setCell _ _ _ _ h, Below.heap_setCell _ _ _ _ h, Below.heap_setCell _ _ _ _ h, Below.heap_setCell _ _ _ _ h, Below.heap_setCell _ _ _ _ h, Below.heap_setCell _ _ _ _ h]

theorem fld0 (a b c d e f : Value) (w : World) : (Instr.field 62 (.agg #[a, b, c, d, e, f]) 0).run Tryz.prog w = .ok a w := by kernel_rfl
theorem fld3 (a b c d e f : Value) (w : World) : (Instr.field 62 (.agg #[a, b, c, d, e, f]) 3).run Tryz.prog w = .ok d w := by kernel_rfl
theorem fld4 (a b c d e f : Value) (w : World) : (Instr.field 62 (.agg #[a, b, c, d, e, f]) 4).run Tryz.prog w = .ok e w := by kernel_rfl

/-- The parser gives up. -/
def gvE (F : Gr.Flt) : Ending := .panicked [{ v := .iface 87 (.agg #[.int .i64 (F.1 : Int), .int .i64 0, .int .i64 (F.2 : Int)]), recovered := false }]
/-- What reading a piece ends with. -/
def ParIs {α : Type} (X : Nat) (v : Value) (ts : List Tk) (f : Gr.Flt) (w : World) (V : α → World → Value → Prop) (res : Gr.Res α) (e : Ending) (w' : World) : Prop :=
  Bes X w w' ∧ match res with
  | .error F => e = gvE F
  | .ok (x, r) => ∃ u a, V x w' u ∧ e = .returned u ∧ Rdr w' X v ts a f ∧ ts.drop a = r
end Go.Proofs.YtncdjkdpoinfaaaGreatDoor
/-
  A region that draws its order, taken by hand: reads first, by their numbers, the rest one by one. No condition beyond those that each lemma states.
-/
namespace Go.Proofs.YtncdjkdpoinfaaaGreatDoor
open Go

section
variable {P : Program} {ops : Array Oper} {Q : Exit → Act → World → Prop} {md : Region.Mode} {S : World → Prop}
def takeHB (md : Region.Mode) (ops : Array Oper) (listed : Array Bool) (i : Nat) : Bool := Region.noSelect ops && Region.free md ops listed i && (Region.ready md ops listed).contains i
theorem wpAnyH_tk (i : Nat) {oi : Oper} (d : Option Tmp) (v : Value) {fuel : Nat} {listed : Array Bool} {a : Act} {w : World} (hi : ops[i]? = some oi) (hd : oi.dst = d) (hc : takeHB md ops listed i = true)
    (hQ : ∀ c a w, Q (.panic c) (a.put d v) w → Q (.panic c) a w) (hS : S w) (hy : YieldsIf P ops S oi v a)
    (h : wpAnyH P md ops Q S fuel (listed.setIfInBounds i true) (a.put d v) w) : wpAnyH P md ops Q S (fuel + 1) listed a w := by
  subst hd
  simp only [takeHB, Bool.and_eq_true] at hc
  exact wpAnyH_take hi hc.1.1 hc.1.2 hc.2 hQ hy hS h
theorem wpAnyH_one (i : Nat) {oi : Oper} {fuel : Nat} {listed : Array Bool} {a : Act} {w : World} (hi : ops[i]? = some oi) (hr : Region.ready md ops listed = [i])
    (h : ∀ K' : Act → World → Prop, (∀ a' w', S w' → wpAnyH P md ops Q S fuel (listed.setIfInBounds i true) a' w' → K' a' w') →
      if Region.wanted oi (yielded ops a.tmps) = true then Oper.wp P oi a w K' Q else K' (a.put oi.dst undef) w) : wpAnyH P md ops Q S (fuel + 1) listed a w := by
  refine ⟨fun h0 => (by rw [hr] at h0; cases h0), fun j hj => ?_⟩
  rw [hr] at hj
  obtain rfl : j = i := by simpa using hj
  exact wpOp_step hi (fun K' hK => h K' (fun a' w' h1 h2 => hK a' w' ⟨h1, h2⟩))
theorem wp_region_H {id : Nat} {a : Act} {w : World} (S : World → Prop) (hm : P.follows .mixedOrders = true)
    (h : wpAnyH P .any ops Q S ops.size (Array.replicate ops.size false) a w.drew) : (Code.region id ops true).wp P Q a w := wp_region_held hm h
theorem wpAnyT_two (i j : Nat) {oi oj : Oper} {last : Nat} {fuel : Nat} {listed : Array Bool} {a : Act} {w : World} (hi : ops[i]? = some oi) (hj : ops[j]? = some oj) (hr : Region.ready md ops listed = [i, j])
    (h : ∀ K' : Act → World → Prop, (∀ a' w', (i ≠ last → S w') → wpAnyT P md ops Q S last fuel (listed.setIfInBounds i true) a' w' → K' a' w') →
      if Region.wanted oi (yielded ops a.tmps) = true then Oper.wp P oi a w K' Q else K' (a.put oi.dst undef) w)
    (g : ∀ K' : Act → World → Prop, (∀ a' w', (j ≠ last → S w') → wpAnyT P md ops Q S last fuel (listed.setIfInBounds j true) a' w' → K' a' w') →
      if Region.wanted oj (yielded ops a.tmps) = true then Oper.wp P oj a w K' Q else K' (a.put oj.dst undef) w) : wpAnyT P md ops Q S last (fuel + 1) listed a w := by
  refine ⟨fun h0 => (by rw [hr] at h0; cases h0), fun k hk => ?_⟩
  rw [hr] at hk
  simp only [List.mem_cons, List.not_mem_nil, or_false] at hk
  rcases hk with rfl | rfl
  · exact wpOp_step hi (fun K' hK => h K' (fun a' w' h1 h2 => hK a' w' ⟨h1, h2⟩))
  · exact wpOp_step hj (fun K' hK => g K' (fun a' w' h1 h2 => hK a' w' ⟨h1, h2⟩))
theorem wpAnyT_tk (i : Nat) {oi : Oper} {last : Nat} (d : Option Tmp) (v : Value) {fuel : Nat} {listed : Array Bool} {a : Act} {w : World} (hi : ops[i]? = some oi) (hd : oi.dst = d) (hc : takeB md ops listed last i = true)
    (hQ : ∀ c a w, Q (.panic c) (a.put d v) w → Q (.panic c) a w) (hS : S w) (hy : YieldsIf P ops S oi v a)
    (h : wpAnyT P md ops Q S last fuel (listed.setIfInBounds i true) (a.put d v) w) : wpAnyT P md ops Q S last (fuel + 1) listed a w :=
  wpAnyT_take i hi hd hc hQ hS hy h
end
end Go.Proofs.YtncdjkdpoinfaaaGreatDoor
