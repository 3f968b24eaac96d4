/-
  The walk of strconv.ParseUint at base 16, two lower hexadecimal digits. Conditions: those.
-/
import Derived.Test.YtijmogehmcjopaaDoorW13
namespace Go.Proofs.YtijmogehmcjopaaDoor
open Go.RowKit Ct

theorem hex_small {k : Nat} (h : k < 10) : (hexD k).toNat = 48 + k := by simp [hexD, h, UInt8.toNat_ofNat']; omega
theorem hex_large {k : Nat} (h : ¬ k < 10) (h2 : k < 16) : (hexD k).toNat = 87 + k := by simp [hexD, h, UInt8.toNat_ofNat']; omega
theorem or32 : ∀ k : Fin 16, 10 ≤ k.val → (87 + k.val) ||| 32 = 87 + k.val := by decide
set_option maxHeartbeats 3200000 in
set_option maxRecDepth 100000 in
theorem lower_any (c k : Nat) (h1 : 10 ≤ k) (h2 : k < 16) (hc : c = 87 + k) (w : World) : Calls Tryd.prog 88 #[.int .u8 (c : Int)] w fun e w' => e = .returned (.int .u8 (c : Int)) ∧ w' = w := by
  have hb : bits .or .u8 (c : Int) 32 = (c : Int) := by
    have := u8_or_nat c 32 (by omega) (by decide)
    rw [hc, or32 ⟨k, h2⟩ h1] at this
    rw [hc]; exact this
  clear hc
  go_enter Tryd.func88, Tryd.ntmps88
  go_wp2
  all_goals go_ret
  exact ⟨rfl, rfl⟩
/-- The number behind q digits. -/
def hexN (a d q : Nat) : Nat := if q = 0 then 0 else if q = 1 then a else 16 * a + d
set_option maxHeartbeats 3200000 in
set_option maxRecDepth 100000 in
theorem parse76 (s : ByteArray) (a d : Nat) (ha : a < 16) (hd : d < 16) (hs : L s = [hexD a, hexD d]) (w : World) :
    Calls Tryd.prog 76 #[.string s, .int .i64 16, .int .i64 8] w fun e w' => e = .returned (.tuple #[.int .u64 ((16 * a + d : Nat) : Int), .nilIface]) ∧ Below w.heap.size w w' := by
  obtain ⟨V, hV⟩ : ∃ V, V = 16 * a + d := ⟨_, rfl⟩
  rw [← hV]
  have HV := Lib.hid hV
  clear hV
  have hn : s.size = 2 := by rw [← L_len, hs]; rfl
  have e0 : (s.toList == []) = false := by rw [toList_L, hs]; rfl
  have hcv := Lib.run_convert_string_bytes w 9 56 5 s Tryd.underlying9 Tryd.underlying56 Tryd.underlying5
  obtain ⟨wb, hwb⟩ : ∃ wb, wb = Lib.bytesWorld w 5 s := ⟨_, rfl⟩
  have HB : Hid (Below w.heap.size w wb) := Lib.hid (by rw [hwb]; exact Joins.below_bytesWorld _ w 5 _ (Nat.le_refl _))
  obtain ⟨g, hg⟩ : ∃ g, g = w.heap.size := ⟨_, rfl⟩
  have hcell : Hid (∀ q, q < 2 → ∃ k, k < 16 ∧ wb.cell? ⟨g, q, none⟩ = some (.int .u8 ((hexD k).toNat : Int)) ∧ hexN a d (q + 1) = 16 * hexN a d q + k ∧ hexN a d q ≤ 15) := Lib.hid fun q hq => by
    rw [hwb, hg, Lib.bytesWorld_cell w 5 s q (by omega)]
    have e : ∀ x, (L s)[q]? = some x → s.data.toList.getD q 0 = x := fun x hx => by
      rw [List.getD_eq_getElem?_getD]
      show ((L s)[q]?).getD 0 = _
      rw [hx]; rfl
    obtain rfl | rfl : q = 0 ∨ q = 1 := by omega
    · exact ⟨a, ha, by rw [e (hexD a) (by rw [hs]; rfl)], by simp [hexN], by simp [hexN]⟩
    · exact ⟨d, hd, by rw [e (hexD d) (by rw [hs]; rfl)], by simp [hexN], by simp [hexN]; omega⟩
  have HG := Lib.hid hg
  rw [← hwb, ← hg] at hcv
  obtain ⟨cap, hcap⟩ : ∃ cap, cap = grownCap w s.size 0 5 := ⟨_, rfl⟩
  rw [← hcap, hn] at hcv
  clear hwb hcap hg hs ha hd
  go_enter Tryd.func76, Tryd.ntmps76
  go_upto_region 36 with fail
  clear hcv
  have HN := Lib.hid hn
  clear hn e0
  go_loop [101, 12, 13] (fun k t m => ∃ q N : Nat, k = .int .i64 (q : Int) ∧ t = .bool false ∧ m = .int .u64 (N : Int) ∧ q ≤ 2 ∧ Hid (N = hexN a d q)) (fun k _ _ => 2 - (intOf k).toNat)
  case atStart => exact ⟨0, 0, rfl, rfl, rfl, by omega, Lib.hid rfl⟩
  case round =>
    obtain ⟨q, N, rfl, rfl, rfl, hq, HNN⟩ := hrel
    by_cases hq2 : q < 2
    · have hqI : (q : Int) < 2 := by omega
      have hq0 : (0 : Int) ≤ (q : Int) := by omega
      obtain ⟨k, hk, hc, hnx, hN⟩ := hcell.out q hq2
      rw [← HNN.out] at hnx hN
      have hw1 : IntKind.i64.wrap ((q : Int) + 1) = (q : Int) + 1 := by rw [IntKind.wrap_i64]; omega
      have hm1 : IntKind.u64.wrap ((N : Int) * 16) = (N : Int) * 16 := by rw [IntKind.wrap_u64]; omega
      obtain ⟨M, hM⟩ : ∃ M, M = N * 16 + k := ⟨_, rfl⟩
      have hm2 : IntKind.u64.wrap ((N : Int) * 16 + (k : Int)) = (M : Int) := by rw [IntKind.wrap_u64]; omega
      have hm3 : ¬ (M : Int) < (N : Int) * 16 := by omega
      have hm4 : ¬ (255 : Int) < (M : Int) := by omega
      have hm6 : ¬ (1152921504606846976 : Int) ≤ (N : Int) := by omega
      have hm7 : IntKind.u64.wrap (k : Int) = (k : Int) := by rw [IntKind.wrap_u64]; omega
      have hm8 : ¬ (16 : Int) ≤ (k : Int) := by omega
      have HX : Hid (M = hexN a d (q + 1)) := Lib.hid (by rw [hnx, hM, Nat.mul_comm])
      have HN15 := Lib.hid hN
      clear hnx hN hM
      by_cases h10 : k < 10
      · obtain ⟨c, hcc⟩ : ∃ c : Nat, c = 48 + k := ⟨_, rfl⟩
        rw [hex_small h10, ← hcc] at hc
        have f1 : ((c : Int) == 95) = false := by simp; omega
        have f2 : (48 : Int) ≤ (c : Int) := by omega
        have f3 : (c : Int) ≤ 57 := by omega
        have f4 : IntKind.u8.wrap ((c : Int) - 48) = (k : Int) := by rw [IntKind.wrap_u8]; omega
        have f5 : (c : Int) - 48 = (k : Int) := by omega
        clear hcc h10 hk hq2
        go_wp2
        go_round
        case rel => exact ⟨q + 1, M, by go_num, rfl, rfl, by omega, HX⟩
        case measure => simp only [intOf]; omega
      · obtain ⟨c, hcc⟩ : ∃ c : Nat, c = 87 + k := ⟨_, rfl⟩
        rw [hex_large h10 hk, ← hcc] at hc
        have f1 : ((c : Int) == 95) = false := by simp; omega
        have f2 : (48 : Int) ≤ (c : Int) := by omega
        have f3 : ¬ (c : Int) ≤ 57 := by omega
        have f3' : (57 : Int) < (c : Int) := by omega
        have f4 : IntKind.u8.wrap ((c : Int) - 97) = (c : Int) - 97 := by rw [IntKind.wrap_u8]; omega
        have f5 : IntKind.u8.wrap ((c : Int) - 97 + 10) = (k : Int) := by rw [IntKind.wrap_u8]; omega
        have f6 : (97 : Int) ≤ (c : Int) := by omega
        have f7 : (c : Int) ≤ 122 := by omega
        have cl := fun w => lower_any c k (by omega) hk hcc w
        clear hcc h10 hk hq2
        clear hm6
        go_upto_region 46 with (go_at_call 88; refine (cl _).mono ?_; rintro e w9 ⟨rfl, hw⟩; rw [hw]; clear hw w9)
        clear f1 f2 f3 f3' f6 f7 f4 f5 cl
        go_upto_region 48 with fail
        have hm6 : ¬ (1152921504606846976 : Int) ≤ (N : Int) := by have := HN15.out; omega
        go_upto_region 50 with fail
        clear hm6
        go_wp2
        go_round
        case rel => exact ⟨q + 1, M, by go_num, rfl, rfl, by omega, HX⟩
        case measure => simp only [intOf]; omega
    · have hqe : q = 2 := by omega
      have HX : Hid (N = V) := Lib.hid (by rw [HNN.out, HV.out, hqe]; simp [hexN])
      have hqI : ¬ (q : Int) < 2 := by omega
      clear hqe hq
      go_wp2
      all_goals go_ret2
      all_goals exact ⟨by rw [HX.out]; rfl, HB.out⟩
set_option maxHeartbeats 3200000 in
set_option maxRecDepth 100000 in
theorem parse58 (s : ByteArray) (a d : Nat) (ha : a < 16) (hd : d < 16) (hs : L s = [hexD a, hexD d]) (w : World) :
    Calls Tryd.prog 58 #[.string s, .int .i64 16, .int .i64 8] w fun e w' => e = .returned (.tuple #[.int .u64 ((16 * a + d : Nat) : Int), .nilIface]) ∧ Below w.heap.size w w' := by
  have hc := parse76 s a d ha hd hs w
  obtain ⟨V, hV⟩ : ∃ V, V = 16 * a + d := ⟨_, rfl⟩
  rw [← hV] at hc ⊢
  clear hV hs ha hd
  go_enter Tryd.func58, Tryd.ntmps58
  go_wp2_with (go_at_call 76; refine hc.mono ?_; rintro e w9 ⟨rfl, hb⟩)
  all_goals go_ret2
  all_goals exact ⟨rfl, by assumption⟩
end Go.Proofs.YtijmogehmcjopaaDoor
