/-
  The walks of the law's decimal and signed. Conditions: a number's reach.
-/
import Derived.Test.YtijmogehmcjopaaDoorW7
import Derived.Test.YtijmogehmcjopaaDoorShelf
import Derived.Laws.IdiomStrings
namespace Go.Proofs.YtijmogehmcjopaaDoor
open Go.RowKit Go.Shelf Ct

/-- A block of one byte reads as a string. -/
theorem back_one (w : World) (b k : Nat) (hk : k < 10) (h : w.cell? ⟨b, 0, none⟩ = some (.int .u8 (48 + (k : Int)))) :
    (convert 56 9 (.slice (some ⟨b, 0, none⟩) 1 1)).run Tryd.prog w = .ok (.string ⟨#[UInt8.ofNat (48 + k)]⟩) w := by
  have hd : (UInt8.ofNat (48 + k)).toNat = 48 + k := by simp [UInt8.toNat_ofNat']; omega
  refine run_convert_bytes_back w 56 9 5 ⟨b, 0, none⟩ 1 [UInt8.ofNat (48 + k)] Tryd.underlying56 Tryd.underlying5 Tryd.underlying9 ?_
  intro j hj
  obtain rfl : j = 0 := by simpa using hj
  have ha : (⟨b, 0, none⟩ : Addr).add 0 = ⟨b, 0, none⟩ := rfl
  rw [ha, h]
  simp only [List.getElem_cons_zero, hd]
  simp
theorem new_one (w : World) (v : Value) (T : TypeId) : (w.alloc (.cells #[v] T)).cell? ⟨w.heap.size, 0, none⟩ = some v := by rw [World.cell?_alloc_new]; rfl
theorem dec_len : ∀ (k u : Nat), u < 10 ^ (k + 1) → (Lib.decDigits u).length ≤ k + 1
  | 0, u, h => by rw [Lib.decDigits, dif_pos (by simpa using h)]; simp
  | k + 1, u, h => by
    rw [Lib.decDigits]
    split
    · simp
    · have := dec_len k (u / 10) (by rw [Nat.pow_succ] at h; omega)
      simp; omega
set_option maxRecDepth 100000 in
set_option maxHeartbeats 3200000 in
theorem decimal_any : ∀ (n : Nat) (w : World), n < 18446744073709551616 → Calls Tryd.prog 45 #[.int .u64 (n : Int)] w fun e w' => e = .returned (.string ⟨(Lib.decDigits n).toArray⟩) ∧ Below w.heap.size w w' := by
  intro n
  induction n using Nat.strongRecOn with
  | ind n ih =>
    intro w hn
    rw [Lib.decDigits]
    by_cases h : n < 10
    · rw [dif_pos h]
      have hI : (n : Int) < 10 := by omega
      have hcv := back_one (w.alloc (.cells #[.int .u8 (48 + (n : Int))] 5)) w.heap.size n h (new_one _ _ _)
      have hB := up_alloc w (.cells #[.int .u8 (48 + (n : Int))] 5)
      obtain ⟨bt, hbt⟩ : ∃ bt, bt = UInt8.ofNat (48 + n) := ⟨_, rfl⟩
      rw [← hbt] at hcv ⊢
      clear hbt
      go_enter Tryd.func45, Tryd.ntmps45
      go_wp2
      all_goals go_ret
      all_goals exact ⟨rfl, hB⟩
    · rw [dif_neg h]
      have hI : (10 : Int) ≤ (n : Int) := by omega
      have hc := fun w => ih (n / 10) (by omega) w (by omega)
      obtain ⟨q, hq⟩ : ∃ q, q = n / 10 := ⟨_, rfl⟩
      obtain ⟨r, hr⟩ : ∃ r, r = n % 10 := ⟨_, rfl⟩
      have hr10 : r < 10 := by omega
      rw [← hq] at hc
      rw [← hq, ← hr]
      have hcv := fun v b => back_one v b r hr10
      obtain ⟨bt, hbt⟩ : ∃ bt, bt = UInt8.ofNat (48 + r) := ⟨_, rfl⟩
      rw [← hbt] at hcv ⊢
      clear hbt ih
      go_enter Tryd.func45, Tryd.ntmps45
      go_upto_region 3 with fail
      refine wp_region_H (fun x => Below w.heap.size w x) (by kernel_rfl) ?_
      have hS0 : Below w.heap.size w w.drew := (Below.refl _ _).drew
      refine wpAnyH_tk 0 (some 10) (.int .u64 (n : Int)) rfl rfl (by kernel_rfl) (fun _ _ _ h => h) (by assumption) (Or.inl ⟨by kernel_rfl, fun z hx => ?_⟩) ?_
      · clear hx
        go_simp
        try rfl
      refine wpAnyH_tk 1 (some 11) (.int .u64 (q : Int)) rfl rfl (by kernel_rfl) (fun _ _ _ h => h) (by assumption) (Or.inl ⟨by kernel_rfl, fun z hx => ?_⟩) ?_
      · clear hx
        go_simp
        rw [IntKind.wrap_u64]; omega
      refine wpAnyH_tk 3 (some 13) (.int .u64 (n : Int)) rfl rfl (by kernel_rfl) (fun _ _ _ h => h) (by assumption) (Or.inl ⟨by kernel_rfl, fun z hx => ?_⟩) ?_
      · clear hx
        go_simp
        try rfl
      refine wpAnyH_tk 4 (some 14) (.int .u64 (r : Int)) rfl rfl (by kernel_rfl) (fun _ _ _ h => h) (by assumption) (Or.inl ⟨by kernel_rfl, fun z hx => ?_⟩) ?_
      · clear hx
        go_simp
        exact Int.tmod_eq_emod_of_nonneg (by omega)
      refine wpAnyH_tk 5 (some 15) (.int .u8 (r : Int)) rfl rfl (by kernel_rfl) (fun _ _ _ h => h) (by assumption) (Or.inl ⟨by kernel_rfl, fun z hx => ?_⟩) ?_
      · clear hx
        go_simp
        try (rw [IntKind.wrap_u8]; omega)
      refine wpAnyH_tk 6 (some 16) (.int .u8 (48 + (r : Int))) rfl rfl (by kernel_rfl) (fun _ _ _ h => h) (by assumption) (Or.inl ⟨by kernel_rfl, fun z hx => ?_⟩) ?_
      · clear hx
        go_simp
        try (rw [IntKind.wrap_u8]; omega)
      have hlen : ¬ 9223372036854775807 < (Lib.decDigits q).length + 1 := by
        have := dec_len 19 q (by omega)
        omega
      have HCV := Lib.hid hcv
      have HC := Lib.hid hc
      have HN := Lib.hid hn
      clear hcv hc hn h hI hr hq hr10
      refine wpAnyH_two 2 7 rfl rfl (by kernel_rfl) (fun K' hK' => ?_) (fun K' hK' => ?_)
      · rw [if_pos (by kernel_rfl)]
        go_simp
        go_at_call 45
        refine (HC.out _).mono ?_
        rintro e w1 ⟨rfl, hb1⟩
        go_simp
        have hS1 : Below w.heap.size w w1 := hS0.trans hb1
        refine hK' _ _ hS1 ?_
        clear hK'
        refine wpAnyH_one 7 rfl (by kernel_rfl) (fun K' hK' => ?_)
        rw [if_pos (by kernel_rfl)]
        go_simp
        have hS7 : Below w.heap.size w (w1.alloc (Obj.cells #[.int .u8 (48 + (r : Int))] 5)) := hS1.alloc hS1.size _
        have hk := HCV.out (w1.alloc (Obj.cells #[.int .u8 (48 + (r : Int))] 5)) w1.heap.size (new_one _ _ _)
        refine hK' _ _ hS7 ?_
        clear hK'
        refine wpAnyH_one 8 rfl (by kernel_rfl) (fun K' hK' => ?_)
        rw [if_pos (by kernel_rfl)]
        go_simp
        refine hK' _ _ hS7 ?_
        clear hK'
        refine wpAnyH_one 9 rfl (by kernel_rfl) (fun K' hK' => ?_)
        rw [if_pos (by kernel_rfl)]
        go_simp
        refine hK' _ _ hS7 ?_
        clear hK'
        refine wpAnyH_one 10 rfl (by kernel_rfl) (fun K' hK' => ?_)
        rw [if_pos (by kernel_rfl)]
        go_simp
        refine hK' _ _ hS7 ?_
        clear hK'
        refine wpAnyH_done (by kernel_rfl) ?_ _
        go_simp
        go_wp2
        go_ret
        refine ⟨?_, hS7⟩
        rfl
      · rw [if_pos (by kernel_rfl)]
        go_simp
        obtain ⟨x7, hx7⟩ : ∃ x7, x7 = (w.alloc (Obj.cells #[.int .u8 (48 + (r : Int))] 5)).drew := ⟨_, rfl⟩
        rw [← hx7]
        have hS7 : Below w.heap.size w x7 := by rw [hx7]; exact (up_alloc _ _).drew
        have hsz7 : w.heap.size < x7.heap.size := by rw [hx7]; simp
        have hc7 : x7.cell? ⟨w.heap.size, 0, none⟩ = some (.int .u8 (48 + (r : Int))) := by rw [hx7]; exact new_one _ _ _
        clear hx7
        refine hK' _ _ hS7 ?_
        clear hK'
        have hk7 := HCV.out x7 w.heap.size hc7
        refine wpAnyH_two 2 8 rfl rfl (by kernel_rfl) (fun K' hK' => ?_) (fun K' hK' => ?_)
        · rw [if_pos (by kernel_rfl)]
          clear hk7
          go_simp
          go_at_call 45
          refine (HC.out _).mono ?_
          rintro e w1 ⟨rfl, hb1⟩
          go_simp
          have hS1 : Below w.heap.size w w1 := hS7.trans (hb1.mono (by omega))
          have hk := HCV.out w1 w.heap.size ((hb1.cell (p := ⟨w.heap.size, 0, none⟩) hsz7).trans hc7)
          refine hK' _ _ hS1 ?_
          clear hK'
          refine wpAnyH_one 8 rfl (by kernel_rfl) (fun K' hK' => ?_)
          rw [if_pos (by kernel_rfl)]
          go_simp
          refine hK' _ _ hS1 ?_
          clear hK'
          refine wpAnyH_one 9 rfl (by kernel_rfl) (fun K' hK' => ?_)
          rw [if_pos (by kernel_rfl)]
          go_simp
          refine hK' _ _ hS1 ?_
          clear hK'
          refine wpAnyH_one 10 rfl (by kernel_rfl) (fun K' hK' => ?_)
          rw [if_pos (by kernel_rfl)]
          go_simp
          refine hK' _ _ hS1 ?_
          clear hK'
          refine wpAnyH_done (by kernel_rfl) ?_ _
          go_simp
          go_wp2
          go_ret
          refine ⟨?_, hS1⟩
          rfl
        · rw [if_pos (by kernel_rfl)]
          go_simp
          refine hK' _ _ hS7 ?_
          clear hK'
          refine wpAnyH_one 2 rfl (by kernel_rfl) (fun K' hK' => ?_)
          rw [if_pos (by kernel_rfl)]
          go_simp
          go_at_call 45
          refine (HC.out _).mono ?_
          rintro e w1 ⟨rfl, hb1⟩
          go_simp
          have hS1 : Below w.heap.size w w1 := hS7.trans (hb1.mono (by omega))
          refine hK' _ _ hS1 ?_
          clear hK'
          refine wpAnyH_one 9 rfl (by kernel_rfl) (fun K' hK' => ?_)
          rw [if_pos (by kernel_rfl)]
          go_simp
          refine hK' _ _ hS1 ?_
          clear hK'
          refine wpAnyH_one 10 rfl (by kernel_rfl) (fun K' hK' => ?_)
          rw [if_pos (by kernel_rfl)]
          go_simp
          refine hK' _ _ hS1 ?_
          clear hK'
          refine wpAnyH_done (by kernel_rfl) ?_ _
          go_simp
          go_wp2
          go_ret
          refine ⟨?_, hS1⟩
          rfl
end Go.Proofs.YtijmogehmcjopaaDoor
