/-
  The walk of edicttop.stuckText. Conditions: the text is at most 65536 bytes long; a quote stands at the place.
-/
import Derived.Test.YthidnjnaifcfoaaDoorW5
namespace Go.Proofs.YthidnjnaifcfoaaDoor
open Go.RowKit Go.Shelf Pl

theorem below_drewN {B n : Nat} {a w : World} (h : Below B a w) : Below B a (w.drewN n) := ⟨h.os, h.tape, h.output, h.size, h.block⟩
theorem fault_below (w : World) (o : Obj) (x : Nat) : Below w.heap.size w ((w.alloc o).drewN x) := below_drewN (up_alloc w o)
theorem three_sets (w : World) (x : Nat) (A B C : Value) : ((((w.alloc (.cells #[.int .i64 0, .int .i64 0, .int .i64 0] 25)).drewN x).setCell ⟨w.heap.size, 0, none⟩ A).setCell ⟨w.heap.size, 1, none⟩ B).setCell ⟨w.heap.size, 2, none⟩ C = (w.alloc (.cells #[A, B, C] 25)).drewN x := by
  show World.drewN ((((w.alloc (.cells #[.int .i64 0, .int .i64 0, .int .i64 0] 25)).setCell ⟨w.heap.size, 0, none⟩ A).setCell ⟨w.heap.size, 1, none⟩ B).setCell ⟨w.heap.size, 2, none⟩ C) x = _
  congr 1
  simp [go_sem]
def TxFault (n o : Nat) (R : Tx) : Nat × Nat :=
  match R with
  | .quote => (11, o)
  | .esc a => (12, n - a.length)
  | .long => (15, o)
  | .ok _ _ => (0, 0)
theorem next_text {c : UInt8} {g : List UInt8} (h : c.toNat = 34) : next (c :: g) = nextText (c :: g) g := by
  have h1 : ¬ isD c = true := by simp [isD]; omega
  have h2 : ¬ isW c = true := by simp [isW, isD, isU, isL]; omega
  simp only [next]
  rw [if_neg h1, if_neg (by omega), if_neg h2, if_pos h]
theorem stuck_text {s : ByteArray} {o : Nat} (ho : o < s.size) (h : s[o].toNat = 34) : NxFault s.size (next ((L s).drop o)) = TxFault s.size o (txt [] ((L s).drop (o + 1))) := by
  rw [L_drop ho, next_text h]
  unfold nextText
  have hl : s.size - (s[o] :: (L s).drop (o + 1)).length = o := by rw [← L_drop ho, List.length_drop, L_len]; omega
  cases txt [] ((L s).drop (o + 1)) with
  | quote => simp only [NxFault, TxFault]; rw [hl]
  | esc a => rfl
  | long => simp only [NxFault, TxFault]; rw [hl]
  | ok t r => rfl

set_option maxRecDepth 100000 in
set_option maxHeartbeats 3200000 in
theorem stuckText_any (s : ByteArray) (o : Nat) (w : World) (ho : o < s.size) (hs : s.size ≤ 65536) (hst : s[o].toNat = 34) :
    Calls Tryd.prog 18 #[.string s, .int .i64 (o : Int)] w fun e w' => e = .returned (FaultV (NxFault s.size (next ((L s).drop o))).1 (NxFault s.size (next ((L s).drop o))).2) ∧ Below w.heap.size w w' := by
  rw [stuck_text ho hst]
  obtain ⟨T, hT⟩ : ∃ T, T = TxFault s.size o (txt [] ((L s).drop (o + 1))) := ⟨_, rfl⟩
  rw [← hT]
  have HT := Lib.hid hT
  clear hT
  have hw1 : IntKind.i64.wrap ((o : Int) + 1) = (o : Int) + 1 := by rw [IntKind.wrap_i64]; omega
  go_enter Tryd.func18, Tryd.ntmps18
  go_wp2
  go_loopw [5, 6] (fun k i wr => ∃ (acc : List UInt8) (q : Nat), k = .int .i64 (acc.length : Int) ∧ i = .int .i64 (q : Int) ∧ acc.length ≤ 255 ∧ o + 1 ≤ q ∧ q ≤ s.size ∧ Hid (T = TxFault s.size o (txt acc ((L s).drop q))) ∧ ∃ x, wr = (w.alloc (.cells #[.int .i64 0, .int .i64 0, .int .i64 0] 25)).drewN x) (fun _ i _ => s.size - (intOf i).toNat)
  case atStart => exact ⟨[], o + 1, by first | rfl | go_num, by go_num, by simp, by omega, by omega, HT, 0, rfl⟩
  case round =>
    obtain ⟨acc, q, rfl, rfl, hacc, hoq, hq, HQ, x, rfl⟩ := hrel
    obtain ⟨n, hn⟩ : ∃ n, n = acc.length := ⟨_, rfl⟩
    rw [← hn] at hacc ⊢
    have HN := Lib.hid hn
    clear hn
    by_cases h1 : q < s.size
    · have k0 : (0 : Int) ≤ (q : Int) := by omega
      have k1 : (q : Int) < (s.size : Int) := by omega
      have k2 : decide ((q : Int) < (s.size : Int)) = true := decide_eq_true (by omega)
      obtain ⟨c, hc⟩ : ∃ c, c = s[q] := ⟨_, rfl⟩
      have HD := Lib.hid (L_drop h1)
      rw [← hc] at HD
      have HC := Lib.hid hc
      clear hc
      go_upto_region 5 with fail
      rw [← HC.out]
      by_cases b32 : c.toNat < 32
      · have e32 : decide ((c.toNat : Int) < 32) = true := decide_eq_true (by omega)
        have hf : Hid (T = (11, o)) := Lib.hid (by rw [HQ.out, HD.out, txt_low b32]; rfl)
        go_wp2
        rw [three_sets]
        refine bodyPost_ret (results_cell_row rfl _ _ w.heap.size 25 #[.int .i64 11, .int .i64 0, .int .i64 (o : Int)] (0, 0) _ rfl (heap_alloc_new _ _) Tryd.underlying25 rfl Tryd.size25) rfl ?_
        exact ⟨congrArg Ending.returned (fault_eq hf.out), fault_below _ _ _⟩
      have e32 : decide ((c.toNat : Int) < 32) = false := decide_eq_false (by omega)
      by_cases b34 : c.toNat = 34
      · have e34 : ((c.toNat : Int) == 34) = true := by simp; omega
        have hf : Hid (T = (0, 0)) := Lib.hid (by rw [HQ.out, HD.out, txt_close b34]; rfl)
        go_wp2
        rw [three_sets]
        refine bodyPost_ret (results_cell_row rfl _ _ w.heap.size 25 #[.int .i64 0, .int .i64 0, .int .i64 0] (0, 0) _ rfl (heap_alloc_new _ _) Tryd.underlying25 rfl Tryd.size25) rfl ?_
        exact ⟨congrArg Ending.returned (fault_eq hf.out), fault_below _ _ _⟩
      have e34 : ((c.toNat : Int) == 34) = false := by simp; omega
      have hwn : IntKind.i64.wrap ((n : Int) + 1) = (n : Int) + 1 := by rw [IntKind.wrap_i64]; omega
      by_cases b92 : c.toNat = 92
      · have e92 : ((c.toNat : Int) == 92) = true := by simp; omega
        cases hE : esc ((L s).drop q) with
        | none =>
          have hf : Hid (T = (12, q)) := Lib.hid (by
            rw [HQ.out]
            have h5 := hE
            rw [HD.out] at h5
            rw [HD.out, txt_bad b92 h5, ← HD.out]
            simp only [TxFault]
            rw [List.length_drop, L_len, show s.size - (s.size - q) = q by omega])
          clear HQ HD HC
          go_wp2_with fail
          refine (escape_any s q _ h1 hs).mono ?_
          rintro e w' ⟨he, x2, rfl⟩
          rw [hE] at he
          subst he
          go_wp2
          rw [three_sets]
          refine bodyPost_ret (results_cell_row rfl _ _ w.heap.size 25 #[.int .i64 12, .int .i64 0, .int .i64 (q : Int)] (0, 0) _ rfl (heap_alloc_new _ _) Tryd.underlying25 rfl Tryd.size25) rfl ?_
          exact ⟨congrArg Ending.returned (fault_eq hf.out), fault_below _ _ _⟩
        | some z =>
          obtain ⟨c', k⟩ := z
          have hk := esc_len hE
          rw [List.length_drop, L_len] at hk
          have e8 : ((k : Int) == 0) = false := by simp; omega
          have hwq : IntKind.i64.wrap ((q : Int) + (k : Int)) = (q : Int) + (k : Int) := by rw [IntKind.wrap_i64]; omega
          have hstep : txt acc ((L s).drop q) = if acc.length = 255 then .long else txt (acc ++ [c']) ((L s).drop (q + k)) := by
            have h5 := hE
            rw [HD.out] at h5
            rw [HD.out, txt_esc b92 h5, ← HD.out, List.drop_drop]
          by_cases h255 : n = 255
          · have e255 : ((n : Int) == 255) = true := by simp; omega
            have hf : Hid (T = (15, o)) := Lib.hid (by rw [HQ.out, hstep, if_pos (by rw [← HN.out]; exact h255)]; rfl)
            clear HQ HD HC hstep
            have HE := Lib.hid hE
            clear hE
            go_wp2_with fail
            refine (escape_any s q _ h1 hs).mono ?_
            rintro e w' ⟨he, x2, rfl⟩
            rw [HE.out] at he
            subst he
            go_wp2
            rw [three_sets]
            refine bodyPost_ret (results_cell_row rfl _ _ w.heap.size 25 #[.int .i64 15, .int .i64 0, .int .i64 (o : Int)] (0, 0) _ rfl (heap_alloc_new _ _) Tryd.underlying25 rfl Tryd.size25) rfl ?_
            exact ⟨congrArg Ending.returned (fault_eq hf.out), fault_below _ _ _⟩
          · have e255 : ((n : Int) == 255) = false := by simp; omega
            have HX : Hid (T = TxFault s.size o (txt (acc ++ [c']) ((L s).drop (q + k)))) := Lib.hid (by rw [HQ.out, hstep, if_neg (by rw [← HN.out]; exact h255)])
            have HL : Hid (((acc ++ [c']).length : Int) = (n : Int) + 1) := Lib.hid (by rw [HN.out]; simp)
            have HL2 : (acc ++ [c']).length ≤ 255 := by have := HN.out; simp; omega
            clear HQ HD HC hstep
            have HE := Lib.hid hE
            clear hE
            go_wp2_with fail
            refine (escape_any s q _ h1 hs).mono ?_
            rintro e w' ⟨he, x2, rfl⟩
            rw [HE.out] at he
            subst he
            go_wp2
            go_roundw
            case rel => exact ⟨acc ++ [c'], q + k, by rw [HL.out], by go_num, HL2, by omega, by omega, HX, _, rfl⟩
            case measure => simp only [intOf]; omega
      · have e92 : ((c.toNat : Int) == 92) = false := by simp; omega
        have hwq : IntKind.i64.wrap ((q : Int) + 1) = (q : Int) + 1 := by rw [IntKind.wrap_i64]; omega
        by_cases h255 : n = 255
        · have e255 : ((n : Int) == 255) = true := by simp; omega
          have hf : Hid (T = (15, o)) := Lib.hid (by rw [HQ.out, HD.out, txt_byte b32 b34 b92, if_pos (by rw [← HN.out]; exact h255)]; rfl)
          clear HQ HD HC
          go_wp2
          rw [three_sets]
          refine bodyPost_ret (results_cell_row rfl _ _ w.heap.size 25 #[.int .i64 15, .int .i64 0, .int .i64 (o : Int)] (0, 0) _ rfl (heap_alloc_new _ _) Tryd.underlying25 rfl Tryd.size25) rfl ?_
          exact ⟨congrArg Ending.returned (fault_eq hf.out), fault_below _ _ _⟩
        · have e255 : ((n : Int) == 255) = false := by simp; omega
          have HX : Hid (T = TxFault s.size o (txt (acc ++ [c]) ((L s).drop (q + 1)))) := Lib.hid (by rw [HQ.out, HD.out, txt_byte b32 b34 b92, if_neg (by rw [← HN.out]; exact h255)])
          have HL : Hid (((acc ++ [c]).length : Int) = (n : Int) + 1) := Lib.hid (by rw [HN.out]; simp)
          have HL2 : (acc ++ [c]).length ≤ 255 := by have := HN.out; simp; omega
          clear HQ HD HC
          go_wp2
          go_roundw
          case rel => exact ⟨acc ++ [c], q + 1, by rw [HL.out], by go_num, HL2, by omega, by omega, HX, _, rfl⟩
          case measure => simp only [intOf]; omega
    · have hf : Hid (T = (11, o)) := Lib.hid (by
        rw [HQ.out, show (L s).drop q = [] from List.drop_eq_nil_of_le (by rw [L_len]; omega), txt_nil]; rfl)
      have k2 : decide ((q : Int) < (s.size : Int)) = false := decide_eq_false (by omega)
      clear HQ
      go_wp2
      rw [three_sets]
      refine bodyPost_ret (results_cell_row rfl _ _ w.heap.size 25 #[.int .i64 11, .int .i64 0, .int .i64 (o : Int)] (0, 0) _ rfl (heap_alloc_new _ _) Tryd.underlying25 rfl Tryd.size25) rfl ?_
      exact ⟨congrArg Ending.returned (fault_eq hf.out), fault_below _ _ _⟩
end Go.Proofs.YthidnjnaifcfoaaDoor
