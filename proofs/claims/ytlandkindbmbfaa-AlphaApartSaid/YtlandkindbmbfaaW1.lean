/-
  The walks of alpha.Valid and edictref10.Valid: each answers the plain 'validB'. Conditions: the cells are ints, fewer than 2^45.
-/
import Derived.Test.YtlandkindbmbfaaKit
namespace Go.Proofs.Ytlandkindbmbfaa
open Go.RowKit Plain

set_option maxRecDepth 100000 in
set_option maxHeartbeats 1600000 in
theorem valid_any (s : Shp) (v : Value) (w : World) (hv : IntsAt w w.heap.size v s.cells) (hi : I64s s.cells) (hn : s.cells.length ≤ 35184372088832) :
    Calls Try.prog 17 #[.agg #[.int .i64 s.pred, v]] w (BoolIs w (validB s)) := by
  obtain ⟨V, hV⟩ : ∃ V, V = validB s := ⟨_, rfl⟩
  rw [← hV]
  have HV := Lib.hid hV
  clear hV
  obtain ⟨p, l⟩ := s
  simp only at hv hi hn ⊢
  by_cases hp : p < 0
  · have HR := Lib.hid (show V = false by rw [HV.out]; exact validB_neg hp)
    obtain ⟨a, cap, rfl, h⟩ := hv
    clear h
    go_enter Try.func17, Try.ntmps17
    go_wp2
    go_ret
    exact ⟨ret_bool HR.out.symm, (Below.refl _ _).alloc (Nat.le_refl _) _⟩
  · obtain ⟨a, cap, rfl, h⟩ := hv
    rcases h with rfl | ⟨g, off, rfl, hg, hc⟩
    · have HR := Lib.hid (show V = true by rw [HV.out]; exact validB_true (by simpa using hp) (OkTo.start _))
      go_enter Try.func17, Try.ntmps17
      go_wp2
      refine wp_loop_rounds 1 ?_
      rw [rounds_succ]
      go_wp2
      go_ret
      exact ⟨ret_bool HR.out.symm, (Below.refl _ _).alloc (Nat.le_refl _) _⟩
    · go_enter Try.func17, Try.ntmps17
      go_wp2
      go_loop [12] (fun k => ∃ i : Nat, k = .int .i64 (i : Int) ∧ i ≤ l.length ∧ Hid (OkTo l i)) (fun k => l.length - (intOf k).toNat)
      case atStart => exact ⟨0, rfl, Nat.zero_le _, OkTo.start l⟩
      case round =>
        obtain ⟨i, rfl, hil, hO⟩ := hrel
        by_cases h1 : i < l.length
        · obtain ⟨c, hcc⟩ : ∃ c, c = at' l i := ⟨_, rfl⟩
          have hcb : -9223372036854775808 ≤ c ∧ c ≤ 9223372036854775807 := by rw [hcc]; exact hi i
          have hcell : (w.alloc (.cells #[.int .i64 p, .slice (some ⟨g, off, none⟩) l.length cap] 27)).cell? ⟨g, off + i, none⟩ = some (.int .i64 c) := by
            rw [hcc, World.cell?_alloc_past _ _ _ hg]; exact hc i h1
          by_cases h2 : 0 ≤ c
          · have HO := Lib.hid (hO.out.round (okAt_pos hcc h2))
            clear hcc hc hO hi
            go_wp2
            go_round
            case rel => exact ⟨i + 1, by go_num, by omega, HO.out⟩
            case measure => simp only [intOf]; omega
          · obtain ⟨j, hj⟩ : ∃ j : Nat, -1 - c = (j : Int) := ⟨(-1 - c).toNat, by omega⟩
            have hcneg : c < 0 := by omega
            by_cases h3 : i < j
            · have HR := Lib.hid (show V = false by rw [HV.out]; exact validB_bad h1 (okAt_far hcc hcneg hj h3))
              clear hcc hc hO hi HV h2
              go_wp2
              go_ret
              exact ⟨ret_bool HR.out.symm, (Below.refl _ _).alloc (Nat.le_refl _) _⟩
            · obtain ⟨d, hd⟩ : ∃ d, d = at' l j := ⟨_, rfl⟩
              have hcell2 : (w.alloc (.cells #[.int .i64 p, .slice (some ⟨g, off, none⟩) l.length cap] 27)).cell? ⟨g, off + j, none⟩ = some (.int .i64 d) := by
                rw [hd, World.cell?_alloc_past _ _ _ hg]; exact hc j (by omega)
              have hjl : j < l.length := by omega
              by_cases h4 : d = c
              · have HO := Lib.hid (hO.out.round (okAt_same hcc hcneg hj (by omega) (by rw [← hd, h4])))
                subst h4
                have h5 : (d != d) = false := by simp
                clear hcc hc hO hi hd h2
                go_wp2
                go_round
                case rel => exact ⟨i + 1, by go_num, by omega, HO.out⟩
                case measure => simp only [intOf]; omega
              · have h5 : (d != c) = true := by simpa using h4
                have HR := Lib.hid (show V = false by rw [HV.out]; exact validB_bad h1 (okAt_other hcc hcneg hj (by rw [← hd]; exact h4)))
                clear hcc hc hO hi hd h2 h4 HV
                go_wp2
                go_ret
                exact ⟨ret_bool HR.out.symm, (Below.refl _ _).alloc (Nat.le_refl _) _⟩
        · have e : i = l.length := by omega
          have HR := Lib.hid (show V = true by rw [HV.out]; exact validB_true (by simpa using hp) (by rw [← e]; exact hO.out))
          clear e
          go_wp2
          go_ret
          exact ⟨ret_bool HR.out.symm, (Below.refl _ _).alloc (Nat.le_refl _) _⟩

set_option maxRecDepth 100000 in
set_option maxHeartbeats 1600000 in
theorem refValid_any (s : Shp) (v : Value) (w : World) (hv : IntsAt w w.heap.size v s.cells) (hi : I64s s.cells) (hn : s.cells.length ≤ 35184372088832) :
    Calls Try.prog 18 #[.agg #[.int .i64 s.pred, v]] w (BoolIs w (validB s)) := by
  obtain ⟨V, hV⟩ : ∃ V, V = validB s := ⟨_, rfl⟩
  rw [← hV]
  have HV := Lib.hid hV
  clear hV
  obtain ⟨p, l⟩ := s
  simp only at hv hi hn ⊢
  by_cases hp : p < 0
  · have HR := Lib.hid (show V = false by rw [HV.out]; exact validB_neg hp)
    obtain ⟨a, cap, rfl, h⟩ := hv
    clear h
    go_enter Try.func18, Try.ntmps18
    go_wp2
    go_ret
    exact ⟨ret_bool HR.out.symm, (Below.refl _ _).alloc (Nat.le_refl _) _⟩
  · obtain ⟨a, cap, rfl, h⟩ := hv
    rcases h with rfl | ⟨g, off, rfl, hg, hc⟩
    · have HR := Lib.hid (show V = true by rw [HV.out]; exact validB_true (by simpa using hp) (OkTo.start _))
      go_enter Try.func18, Try.ntmps18
      go_wp2
      refine wp_loop_rounds 1 ?_
      rw [rounds_succ]
      go_wp2
      go_ret
      exact ⟨ret_bool HR.out.symm, (Below.refl _ _).alloc (Nat.le_refl _) _⟩
    · go_enter Try.func18, Try.ntmps18
      go_wp2
      go_loop [3] (fun k => ∃ i : Nat, k = .int .i64 (i : Int) ∧ i ≤ l.length ∧ Hid (OkTo l i)) (fun k => l.length - (intOf k).toNat)
      case atStart => exact ⟨0, rfl, Nat.zero_le _, OkTo.start l⟩
      case round =>
        obtain ⟨i, rfl, hil, hO⟩ := hrel
        by_cases h1 : i < l.length
        · obtain ⟨c, hcc⟩ : ∃ c, c = at' l i := ⟨_, rfl⟩
          have hcb : -9223372036854775808 ≤ c ∧ c ≤ 9223372036854775807 := by rw [hcc]; exact hi i
          have hcell : (w.alloc (.cells #[.int .i64 p, .slice (some ⟨g, off, none⟩) l.length cap] 27)).cell? ⟨g, off + i, none⟩ = some (.int .i64 c) := by
            rw [hcc, World.cell?_alloc_past _ _ _ hg]; exact hc i h1
          by_cases h2 : 0 ≤ c
          · have HO := Lib.hid (hO.out.round (okAt_pos hcc h2))
            clear hcc hc hO hi
            go_wp2
            go_round
            case rel => exact ⟨i + 1, by go_num, by omega, HO.out⟩
            case measure => simp only [intOf]; omega
          · obtain ⟨j, hj⟩ : ∃ j : Nat, -1 - c = (j : Int) := ⟨(-1 - c).toNat, by omega⟩
            have hcneg : c < 0 := by omega
            by_cases h3 : i < j
            · have HR := Lib.hid (show V = false by rw [HV.out]; exact validB_bad h1 (okAt_far hcc hcneg hj h3))
              clear hcc hc hO hi HV h2
              go_wp2
              go_ret
              exact ⟨ret_bool HR.out.symm, (Below.refl _ _).alloc (Nat.le_refl _) _⟩
            · obtain ⟨d, hd⟩ : ∃ d, d = at' l j := ⟨_, rfl⟩
              have hcell2 : (w.alloc (.cells #[.int .i64 p, .slice (some ⟨g, off, none⟩) l.length cap] 27)).cell? ⟨g, off + j, none⟩ = some (.int .i64 d) := by
                rw [hd, World.cell?_alloc_past _ _ _ hg]; exact hc j (by omega)
              have hjl : j < l.length := by omega
              by_cases h4 : d = c
              · have HO := Lib.hid (hO.out.round (okAt_same hcc hcneg hj (by omega) (by rw [← hd, h4])))
                subst h4
                have h5 : (d != -1 - (j : Int)) = false := by simp; omega
                clear hcc hc hO hi hd h2
                go_wp2
                go_round
                case rel => exact ⟨i + 1, by go_num, by omega, HO.out⟩
                case measure => simp only [intOf]; omega
              · have h5 : (d != -1 - (j : Int)) = true := by simp; omega
                have HR := Lib.hid (show V = false by rw [HV.out]; exact validB_bad h1 (okAt_other hcc hcneg hj (by rw [← hd]; exact h4)))
                clear hcc hc hO hi hd h2 h4 HV
                go_wp2
                go_ret
                exact ⟨ret_bool HR.out.symm, (Below.refl _ _).alloc (Nat.le_refl _) _⟩
        · have e : i = l.length := by omega
          have HR := Lib.hid (show V = true by rw [HV.out]; exact validB_true (by simpa using hp) (by rw [← e]; exact hO.out))
          clear e
          go_wp2
          go_ret
          exact ⟨ret_bool HR.out.symm, (Below.refl _ _).alloc (Nat.le_refl _) _⟩

end Go.Proofs.Ytlandkindbmbfaa
