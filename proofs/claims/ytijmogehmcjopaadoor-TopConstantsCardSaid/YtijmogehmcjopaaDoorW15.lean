/-
  The walk of the law's shown: the canonical text. Conditions: a constant; a number's reach.
-/
import Derived.Test.YtijmogehmcjopaaDoorW14
namespace Go.Proofs.YtijmogehmcjopaaDoor
open Go.RowKit Go.Shelf Ct

theorem esc_a {c : UInt8} (h : c.toNat = 34 ∨ c.toNat = 92) : esc c = [92, c] := by rw [esc, if_pos h]
theorem esc_b {c : UInt8} (h : ¬ (c.toNat = 34 ∨ c.toNat = 92)) (h1 : c.toNat = 10) : esc c = [92, 110] := by rw [esc, if_neg h, if_pos h1]
theorem esc_c {c : UInt8} (h : ¬ (c.toNat = 34 ∨ c.toNat = 92)) (h1 : c.toNat = 9) : esc c = [92, 116] := by rw [esc, if_neg h, if_neg (by omega), if_pos h1]
theorem esc_d {c : UInt8} (h : ¬ (c.toNat = 34 ∨ c.toNat = 92)) (h1 : c.toNat = 13) : esc c = [92, 114] := by rw [esc, if_neg h, if_neg (by omega), if_neg (by omega), if_pos h1]
theorem esc_e {c : UInt8} (h : ¬ (c.toNat = 34 ∨ c.toNat = 92)) (h1 : 32 ≤ c.toNat) (h2 : c.toNat ≤ 126) : esc c = [c] := by rw [esc, if_neg h, if_neg (by omega), if_neg (by omega), if_neg (by omega), if_pos ⟨h1, h2⟩]
theorem esc_f {c : UInt8} (h : ¬ (c.toNat = 34 ∨ c.toNat = 92)) (h1 : ¬ c.toNat = 10) (h2 : ¬ c.toNat = 9) (h3 : ¬ c.toNat = 13) (h4 : ¬ (32 ≤ c.toNat ∧ c.toNat ≤ 126)) : esc c = [92, 120, hexD (c.toNat / 16), hexD (c.toNat % 16)] := by rw [esc, if_neg h, if_neg h1, if_neg h2, if_neg h3, if_neg h4]

theorem row_string {w : World} {B n : Nat} {v : Value} {l : List UInt8} (h : w.ownsRow B 5 1 v n (Lib.byteCells l)) : (convert 56 9 v).run Tryd.prog w = .ok (.string ⟨l.toArray⟩) w := by
  have hl : l.length = n := by simpa [Lib.byteCells] using h.1
  rcases h.2 with ⟨rfl, h0⟩ | ⟨g, cap, cur, rfl, hbg, hg, hnc, hcm, hcs, htake⟩
  · obtain rfl : l = [] := List.eq_nil_of_length_eq_zero (by omega)
    exact run_convert_bytes_nil w 56 5 Tryd.underlying56 Tryd.underlying5 0 0 9 Tryd.underlying9
  · subst hl
    refine run_convert_bytes_back w 56 9 5 ⟨g, 0, none⟩ cap l Tryd.underlying56 Tryd.underlying5 Tryd.underlying9 ?_
    intro j hj
    exact h.cells (g := g) rfl j _ (by simp [Lib.byteCells, hj])
set_option maxRecDepth 100000 in
set_option maxHeartbeats 6400000 in
theorem shown_any (c : Cn) (hin : InR c.int) (hv : valid c = true) (w : World) : Calls Tryd.prog 11 #[cnV c] w fun e w' => e = .returned (.string ⟨(textC c).toArray⟩) ∧ Below w.heap.size w w' := by
  obtain ⟨i0, hi, hi'⟩ := Option.map_eq_some_iff.1 info5
  simp only [Prod.mk.injEq] at hi'
  obtain ⟨hz0, hz1, hz2⟩ := hi'
  obtain ⟨w2, hw2⟩ : ∃ w2, w2 = w.alloc (cnO c) := ⟨_, rfl⟩
  obtain ⟨s, hs⟩ : ∃ s : ByteArray, s = ⟨c.text.toArray⟩ := ⟨_, rfl⟩
  have c0 : w2.cell? ⟨w.heap.size, 0, none⟩ = some (.int .i64 c.kind) := by rw [hw2]; exact (cell_three _ _ _ _ _).1
  have c1 : w2.cell? ⟨w.heap.size, 1, none⟩ = some (.int .i64 c.int) := by rw [hw2]; exact (cell_three _ _ _ _ _).2.1
  have c2 : w2.cell? ⟨w.heap.size, 2, none⟩ = some (.string s) := by rw [hw2, hs]; exact (cell_three _ _ _ _ _).2.2
  have HS : Hid (L s = c.text) := Lib.hid (by rw [hs, L_mk])
  have HB : Hid (Below w.heap.size w w2) := Lib.hid (by rw [hw2]; exact up_alloc _ _)
  have hlt : w.heap.size < w2.heap.size := by rw [hw2]; simp
  obtain ⟨V, hV⟩ : ∃ V, V = textC c := ⟨_, rfl⟩
  rw [← hV]
  have HV := Lib.hid hV
  clear hV
  go_enter Tryd.func11, Tryd.ntmps11
  unfold cnV
  go_upto_region 1 with fail
  change Code.wp Tryd.prog _ _ _ (w.alloc (cnO c))
  rw [← hw2]
  have HW2 := Lib.hid hw2
  clear hw2
  by_cases k1 : c.kind = 1
  · have e1 : (c.kind == 1) = true := by simp [k1]
    have hV : Hid (V = Lib.itoa c.int) := Lib.hid (by rw [HV.out, textC_1 hv k1])
    have hf := signed_any c.int w2 hin.1 hin.2
    have hsz : w.heap.size ≤ w2.heap.size := by omega
    clear k1 hs hlt
    go_wp2_with (go_at_call 26; refine hf.mono ?_; rintro e w4 ⟨rfl, hb4⟩)
    all_goals go_ret
    all_goals exact ⟨by first | (rw [hV.out]; done) | (rw [hV.out]; rfl) | rfl, HB.out.trans (hb4.mono hsz)⟩
  have e1 : (c.kind == 1) = false := by simp [k1]
  by_cases k2 : c.kind = 2
  · have e2 : (c.kind == 2) = true := by simp [k2]
    have hV : Hid (Value.string s = Value.string ⟨V.toArray⟩) := Lib.hid (by rw [HV.out, textC_2 hv k2, hs])
    clear k1 k2 hs hlt
    go_wp2
    all_goals go_ret
    all_goals exact ⟨congrArg Ending.returned hV.out, HB.out⟩
  have e2 : (c.kind == 2) = false := by simp [k2]
  have k3 : c.kind = 3 := by rcases valid_kind hv with h | h | h <;> omega
  have hV : Hid (V = Ct.quoted (L s)) := Lib.hid (by rw [HV.out, textC_3 hv k3, HS.out])
  have h255 : s.size ≤ 255 := by rw [← L_len, HS.out]; exact valid_len hv k3
  clear k1 k2 k3 hv hs HV hin
  obtain ⟨b, hb⟩ : ∃ b, b = w.heap.size := ⟨_, rfl⟩
  rw [← hb] at c0 c1 c2 hlt ⊢
  have HBE := Lib.hid hb
  clear hb
  obtain ⟨B, hB⟩ : ∃ B, B = w2.heap.size := ⟨_, rfl⟩
  have HBB := Lib.hid hB
  have HLT : Hid (b < B) := Lib.hid (by omega)
  obtain ⟨n, hn⟩ : ∃ n, n = s.size := ⟨_, rfl⟩
  have HN := Lib.hid hn
  rw [← hn] at h255
  clear hB hlt hn
  go_upto_region 6 with fail
  obtain ⟨wa, hwa⟩ : ∃ wa, wa = w2.alloc (.cells #[.int .u8 34] 5) := ⟨_, rfl⟩
  change Code.wp Tryd.prog _ _ _ (w2.alloc (.cells #[.int .u8 34] 5))
  obtain ⟨oa, hoa⟩ : ∃ oa : Value, oa = .slice (some ⟨w2.heap.size, 0, none⟩) 1 1 := ⟨_, rfl⟩
  rw [← hwa, ← hoa]
  have HOa : Hid (wa.ownsRow B 5 1 oa (34 :: inner ((L s).take 0)).length (Lib.byteCells (34 :: inner ((L s).take 0)))) := Lib.hid (by
    rw [hwa, hoa]
    refine ⟨by simp [Lib.byteCells, inner], .inr ⟨w2.heap.size, 1, #[.int .u8 34], by simp [inner], by rw [HBB.out]; exact Nat.le_refl _, heap_alloc_new w2 _, by simp [inner], by unfold maxLen; omega, rfl, by simp [Lib.byteCells, inner]⟩⟩)
  have HBa : Hid (Below B w2 wa) := Lib.hid (by rw [hwa, HBB.out]; exact up_alloc _ _)
  clear hwa hoa
  go_upto_region 7 with fail
  go_loopw [4, 3] (fun k d wr => ∃ (q : Nat) (o : Value), k = .int .i64 (q : Int) ∧ o = d ∧ q ≤ n ∧ Hid (wr.ownsRow B 5 1 o (34 :: inner ((L s).take q)).length (Lib.byteCells (34 :: inner ((L s).take q)))) ∧ Hid (Below B w2 wr)) (fun k _ _ => n - (intOf k).toNat)
  case atStart => exact ⟨0, oa, rfl, rfl, by omega, HOa, HBa⟩
  case round =>
    obtain ⟨q, o, rfl, rfl, hq, HO, HBw⟩ := hrel
    have hcb : wr.cell? ⟨b, 2, none⟩ = some (.string s) := (HBw.out.cell (p := ⟨b, 2, none⟩) HLT.out).trans c2
    have hlns : s.size = n := HN.out.symm
    by_cases hqn : q < n
    · have hqI : (q : Int) < (n : Int) := by omega
      have hq0 : (0 : Int) ≤ (q : Int) := by omega
      have hqs : q < s.size := by omega
      obtain ⟨c, hc⟩ : ∃ c, c = s[q] := ⟨_, rfl⟩
      have hll : (34 :: inner ((L s).take q)).length ≤ 1021 := by
        have := inner_len ((L s).take q)
        simp only [List.length_cons, List.length_take, L_len] at this ⊢
        omega
      have hnext : Hid (34 :: inner ((L s).take (q + 1)) = (34 :: inner ((L s).take q)) ++ esc c) := by
        apply Lib.hid
        rw [List.take_succ_eq_append_getElem (by rw [L_len]; exact hqs), L_get hqs, ← hc]
        simp [inner]
      have HLL := Lib.hid hll
      have hidx : ∀ w, (Instr.index 9 (.string s) (.int .i64 (q : Int))).run Tryd.prog w = .ok (.int .u8 (c.toNat : Int)) w := fun w => by
        have h2 : s[q]? = some c := by rw [getElem?_pos s q hqs, hc]
        simp [Instr.index, asIntOf, run_underlying Tryd.underlying9, h2]
      clear hll hc hqs
      obtain ⟨X, hX⟩ : ∃ X, X = 34 :: inner ((L s).take q) := ⟨_, rfl⟩
      rw [← hX] at HO hnext HLL
      clear hX
      have hw1 : IntKind.i64.wrap ((q : Int) + 1) = (q : Int) + 1 := by rw [IntKind.wrap_i64]; omega
      go_upto_region 11 with fail
      clear hidx hcb
      by_cases ha : c.toNat = 34 ∨ c.toNat = 92
      · rcases ha with ha1 | ha1
        · have e3 : ((c.toNat : Int) == 34) = true := by simp; omega
          have hesc := esc_a (.inl ha1)
          clear ha1
          have hX1 : Hid (34 :: inner ((L s).take (q + 1)) = X ++ [92, c]) := Lib.hid (by rw [hnext.out, hesc])
          go_wp2_with (at_builtin; refine wpList_append_own _ rfl _ _ 56 rfl B 5 i0 (.int .u8 0) 1 1 Tryd.underlying56 hi hz0 hz1 hz2 rfl (by decide) o X.length (Lib.byteCells X) rfl (HO.out.alloc _) ⟨wr.heap.size, 0, none⟩ 2 2 [.int .u8 92, .int .u8 (c.toNat : Int)] rfl rfl ?c1 ?c2 ?c3 ?c4 ?c5 ?_)
          case c1 =>
            intro j u hj
            rw [add_zero', World.cell?_alloc_new]
            match j, hj with
              | 0, hj => simp at hj; subst hj; rfl
              | 1, hj => simp at hj; subst hj; rfl
          case c2 => intro u hu; simp at hu; rcases hu with rfl | rfl <;> rfl
          case c3 => have := HLL.out; unfold maxLen; omega
          case c4 => have := HLL.out; omega
          case c5 => have := HBw.out.size; have := HBB.out; simp; omega
          intro o2 w3 hown2 hgrow2 _
          have HO2 : Hid (w3.ownsRow B 5 1 o2 (X ++ [92, c]).length (Lib.byteCells (X ++ [92, c]))) := Lib.hid (by rw [List.length_append, Lib.byteCells_append]; exact hown2)
          have HB2 : Hid (Below B w2 w3) := Lib.hid ((HBw.out.alloc (by have := HBw.out.size; have := HBB.out; omega) _).grown hgrow2 (by have := HBw.out.size; have := HBB.out; simp; omega) (fun k hk => (HO.out.lt k hk).1))
          clear hown2 hgrow2
          go_wp2
          go_round
          case rel => exact ⟨q + 1, o2, by go_num, rfl, by omega, Lib.hid (by rw [hX1.out]; exact HO2.out), HB2⟩
          case measure => simp only [intOf]; omega
        · have e3 : ((c.toNat : Int) == 34) = false := by simp; omega
          have e4 : ((c.toNat : Int) == 92) = true := by simp; omega
          have hesc := esc_a (.inr ha1)
          clear ha1
          have hX1 : Hid (34 :: inner ((L s).take (q + 1)) = X ++ [92, c]) := Lib.hid (by rw [hnext.out, hesc])
          go_wp2_with (at_builtin; refine wpList_append_own _ rfl _ _ 56 rfl B 5 i0 (.int .u8 0) 1 1 Tryd.underlying56 hi hz0 hz1 hz2 rfl (by decide) o X.length (Lib.byteCells X) rfl (HO.out.alloc _) ⟨wr.heap.size, 0, none⟩ 2 2 [.int .u8 92, .int .u8 (c.toNat : Int)] rfl rfl ?c1 ?c2 ?c3 ?c4 ?c5 ?_)
          case c1 =>
            intro j u hj
            rw [add_zero', World.cell?_alloc_new]
            match j, hj with
              | 0, hj => simp at hj; subst hj; rfl
              | 1, hj => simp at hj; subst hj; rfl
          case c2 => intro u hu; simp at hu; rcases hu with rfl | rfl <;> rfl
          case c3 => have := HLL.out; unfold maxLen; omega
          case c4 => have := HLL.out; omega
          case c5 => have := HBw.out.size; have := HBB.out; simp; omega
          intro o2 w3 hown2 hgrow2 _
          have HO2 : Hid (w3.ownsRow B 5 1 o2 (X ++ [92, c]).length (Lib.byteCells (X ++ [92, c]))) := Lib.hid (by rw [List.length_append, Lib.byteCells_append]; exact hown2)
          have HB2 : Hid (Below B w2 w3) := Lib.hid ((HBw.out.alloc (by have := HBw.out.size; have := HBB.out; omega) _).grown hgrow2 (by have := HBw.out.size; have := HBB.out; simp; omega) (fun k hk => (HO.out.lt k hk).1))
          clear hown2 hgrow2
          go_wp2
          go_round
          case rel => exact ⟨q + 1, o2, by go_num, rfl, by omega, Lib.hid (by rw [hX1.out]; exact HO2.out), HB2⟩
          case measure => simp only [intOf]; omega
      have e3 : ((c.toNat : Int) == 34) = false := by simp; omega
      have e4 : ((c.toNat : Int) == 92) = false := by simp; omega
      by_cases hb : c.toNat = 10
      · have e5 : ((c.toNat : Int) == 10) = true := by simp; omega
        have hesc := esc_b ha hb
        clear ha hb
        have hX1 : Hid (34 :: inner ((L s).take (q + 1)) = X ++ [92, 110]) := Lib.hid (by rw [hnext.out, hesc])
        go_wp2_with (at_builtin; refine wpList_append_own _ rfl _ _ 56 rfl B 5 i0 (.int .u8 0) 1 1 Tryd.underlying56 hi hz0 hz1 hz2 rfl (by decide) o X.length (Lib.byteCells X) rfl (HO.out.alloc _) ⟨wr.heap.size, 0, none⟩ 2 2 [.int .u8 92, .int .u8 110] rfl rfl ?c1 ?c2 ?c3 ?c4 ?c5 ?_)
        case c1 =>
          intro j u hj
          rw [add_zero', World.cell?_alloc_new]
          match j, hj with
            | 0, hj => simp at hj; subst hj; rfl
            | 1, hj => simp at hj; subst hj; rfl
        case c2 => intro u hu; simp at hu; rcases hu with rfl | rfl <;> rfl
        case c3 => have := HLL.out; unfold maxLen; omega
        case c4 => have := HLL.out; omega
        case c5 => have := HBw.out.size; have := HBB.out; simp; omega
        intro o2 w3 hown2 hgrow2 _
        have HO2 : Hid (w3.ownsRow B 5 1 o2 (X ++ [92, 110]).length (Lib.byteCells (X ++ [92, 110]))) := Lib.hid (by rw [List.length_append, Lib.byteCells_append]; exact hown2)
        have HB2 : Hid (Below B w2 w3) := Lib.hid ((HBw.out.alloc (by have := HBw.out.size; have := HBB.out; omega) _).grown hgrow2 (by have := HBw.out.size; have := HBB.out; simp; omega) (fun k hk => (HO.out.lt k hk).1))
        clear hown2 hgrow2
        go_wp2
        go_round
        case rel => exact ⟨q + 1, o2, by go_num, rfl, by omega, Lib.hid (by rw [hX1.out]; exact HO2.out), HB2⟩
        case measure => simp only [intOf]; omega
      have e5 : ((c.toNat : Int) == 10) = false := by simp; omega
      by_cases hc : c.toNat = 9
      · have e6 : ((c.toNat : Int) == 9) = true := by simp; omega
        have hesc := esc_c ha hc
        clear ha hb hc
        have hX1 : Hid (34 :: inner ((L s).take (q + 1)) = X ++ [92, 116]) := Lib.hid (by rw [hnext.out, hesc])
        go_wp2_with (at_builtin; refine wpList_append_own _ rfl _ _ 56 rfl B 5 i0 (.int .u8 0) 1 1 Tryd.underlying56 hi hz0 hz1 hz2 rfl (by decide) o X.length (Lib.byteCells X) rfl (HO.out.alloc _) ⟨wr.heap.size, 0, none⟩ 2 2 [.int .u8 92, .int .u8 116] rfl rfl ?c1 ?c2 ?c3 ?c4 ?c5 ?_)
        case c1 =>
          intro j u hj
          rw [add_zero', World.cell?_alloc_new]
          match j, hj with
            | 0, hj => simp at hj; subst hj; rfl
            | 1, hj => simp at hj; subst hj; rfl
        case c2 => intro u hu; simp at hu; rcases hu with rfl | rfl <;> rfl
        case c3 => have := HLL.out; unfold maxLen; omega
        case c4 => have := HLL.out; omega
        case c5 => have := HBw.out.size; have := HBB.out; simp; omega
        intro o2 w3 hown2 hgrow2 _
        have HO2 : Hid (w3.ownsRow B 5 1 o2 (X ++ [92, 116]).length (Lib.byteCells (X ++ [92, 116]))) := Lib.hid (by rw [List.length_append, Lib.byteCells_append]; exact hown2)
        have HB2 : Hid (Below B w2 w3) := Lib.hid ((HBw.out.alloc (by have := HBw.out.size; have := HBB.out; omega) _).grown hgrow2 (by have := HBw.out.size; have := HBB.out; simp; omega) (fun k hk => (HO.out.lt k hk).1))
        clear hown2 hgrow2
        go_wp2
        go_round
        case rel => exact ⟨q + 1, o2, by go_num, rfl, by omega, Lib.hid (by rw [hX1.out]; exact HO2.out), HB2⟩
        case measure => simp only [intOf]; omega
      have e6 : ((c.toNat : Int) == 9) = false := by simp; omega
      by_cases hd : c.toNat = 13
      · have e7 : ((c.toNat : Int) == 13) = true := by simp; omega
        have hesc := esc_d ha hd
        clear ha hb hc hd
        have hX1 : Hid (34 :: inner ((L s).take (q + 1)) = X ++ [92, 114]) := Lib.hid (by rw [hnext.out, hesc])
        go_wp2_with (at_builtin; refine wpList_append_own _ rfl _ _ 56 rfl B 5 i0 (.int .u8 0) 1 1 Tryd.underlying56 hi hz0 hz1 hz2 rfl (by decide) o X.length (Lib.byteCells X) rfl (HO.out.alloc _) ⟨wr.heap.size, 0, none⟩ 2 2 [.int .u8 92, .int .u8 114] rfl rfl ?c1 ?c2 ?c3 ?c4 ?c5 ?_)
        case c1 =>
          intro j u hj
          rw [add_zero', World.cell?_alloc_new]
          match j, hj with
            | 0, hj => simp at hj; subst hj; rfl
            | 1, hj => simp at hj; subst hj; rfl
        case c2 => intro u hu; simp at hu; rcases hu with rfl | rfl <;> rfl
        case c3 => have := HLL.out; unfold maxLen; omega
        case c4 => have := HLL.out; omega
        case c5 => have := HBw.out.size; have := HBB.out; simp; omega
        intro o2 w3 hown2 hgrow2 _
        have HO2 : Hid (w3.ownsRow B 5 1 o2 (X ++ [92, 114]).length (Lib.byteCells (X ++ [92, 114]))) := Lib.hid (by rw [List.length_append, Lib.byteCells_append]; exact hown2)
        have HB2 : Hid (Below B w2 w3) := Lib.hid ((HBw.out.alloc (by have := HBw.out.size; have := HBB.out; omega) _).grown hgrow2 (by have := HBw.out.size; have := HBB.out; simp; omega) (fun k hk => (HO.out.lt k hk).1))
        clear hown2 hgrow2
        go_wp2
        go_round
        case rel => exact ⟨q + 1, o2, by go_num, rfl, by omega, Lib.hid (by rw [hX1.out]; exact HO2.out), HB2⟩
        case measure => simp only [intOf]; omega
      have e7 : ((c.toNat : Int) == 13) = false := by simp; omega
      by_cases he : 32 ≤ c.toNat
      · by_cases hf : c.toNat ≤ 126
        · have e8 : (32 : Int) ≤ (c.toNat : Int) := by omega
          have e9 : (c.toNat : Int) ≤ 126 := by omega
          have hesc := esc_e ha he hf
          clear ha hb hc hd he hf
          have hX1 : Hid (34 :: inner ((L s).take (q + 1)) = X ++ [c]) := Lib.hid (by rw [hnext.out, hesc])
          go_wp2_with (at_builtin; refine wpList_append_own _ rfl _ _ 56 rfl B 5 i0 (.int .u8 0) 1 1 Tryd.underlying56 hi hz0 hz1 hz2 rfl (by decide) o X.length (Lib.byteCells X) rfl (HO.out.alloc _) ⟨wr.heap.size, 0, none⟩ 1 1 [.int .u8 (c.toNat : Int)] rfl rfl ?c1 ?c2 ?c3 ?c4 ?c5 ?_)
          case c1 =>
            intro j u hj
            rw [add_zero', World.cell?_alloc_new]
            match j, hj with
              | 0, hj => simp at hj; subst hj; rfl
          case c2 => intro u hu; simp at hu; rcases hu with rfl <;> rfl
          case c3 => have := HLL.out; unfold maxLen; omega
          case c4 => have := HLL.out; omega
          case c5 => have := HBw.out.size; have := HBB.out; simp; omega
          intro o2 w3 hown2 hgrow2 _
          have HO2 : Hid (w3.ownsRow B 5 1 o2 (X ++ [c]).length (Lib.byteCells (X ++ [c]))) := Lib.hid (by rw [List.length_append, Lib.byteCells_append]; exact hown2)
          have HB2 : Hid (Below B w2 w3) := Lib.hid ((HBw.out.alloc (by have := HBw.out.size; have := HBB.out; omega) _).grown hgrow2 (by have := HBw.out.size; have := HBB.out; simp; omega) (fun k hk => (HO.out.lt k hk).1))
          clear hown2 hgrow2
          go_wp2
          go_round
          case rel => exact ⟨q + 1, o2, by go_num, rfl, by omega, Lib.hid (by rw [hX1.out]; exact HO2.out), HB2⟩
          case measure => simp only [intOf]; omega
        · have e8 : (32 : Int) ≤ (c.toNat : Int) := by omega
          have e9 : (126 : Int) < (c.toNat : Int) := by omega
          have hesc := esc_f ha hb hc hd (by omega)
          clear ha hb hc hd he hf
          obtain ⟨a, ha⟩ : ∃ a, a = c.toNat / 16 := ⟨_, rfl⟩
          have ha16 : a < 16 := by have := c.toNat_lt; omega
          have haI : (c.toNat : Int) / 16 = (a : Int) := by omega
          obtain ⟨d, hd⟩ : ∃ d, d = c.toNat % 16 := ⟨_, rfl⟩
          have hd16 : d < 16 := by omega
          have hdI : bits .and .u8 (c.toNat : Int) 15 = (d : Int) := by rw [hd]; exact and15 c
          rw [← ha, ← hd] at hesc
          have HX1 : Hid (34 :: inner ((L s).take (q + 1)) = X ++ [92, 120, hexD a, hexD d]) := Lib.hid (by rw [hnext.out, hesc])
          have hidx := fun w => hex_at a ha16 w
          have hidy := fun w => hex_at d hd16 w
          clear ha hd ha16 hd16 hesc
          go_upto_region 10 with fail
          refine wp_region_H (fun _ => True) (by kernel_rfl) ?_
          refine wpAnyH_tk 0 (some 29) (o) rfl rfl (by kernel_rfl) (fun _ _ _ h => h) trivial (Or.inl ⟨by kernel_rfl, fun z hx => ?_⟩) ?_
          · clear hx
            go_simp
            first | done | rfl | exact haI | exact hdI
          refine wpAnyH_tk 1 (some 30) (.int .u8 (c.toNat : Int)) rfl rfl (by kernel_rfl) (fun _ _ _ h => h) trivial (Or.inl ⟨by kernel_rfl, fun z hx => ?_⟩) ?_
          · clear hx
            go_simp
            first | done | rfl | exact haI | exact hdI
          refine wpAnyH_tk 2 (some 31) (.int .u8 (a : Int)) rfl rfl (by kernel_rfl) (fun _ _ _ h => h) trivial (Or.inl ⟨by kernel_rfl, fun z hx => ?_⟩) ?_
          · clear hx
            go_simp
            first | done | rfl | exact haI | exact hdI
          refine wpAnyH_tk 3 (some 32) (.int .u8 ((hexD a).toNat : Int)) rfl rfl (by kernel_rfl) (fun _ _ _ h => h) trivial (Or.inl ⟨by kernel_rfl, fun z hx => ?_⟩) ?_
          · clear hx
            go_simp
            first | done | rfl | exact haI | exact hdI
          refine wpAnyH_tk 4 (some 33) (.int .u8 (c.toNat : Int)) rfl rfl (by kernel_rfl) (fun _ _ _ h => h) trivial (Or.inl ⟨by kernel_rfl, fun z hx => ?_⟩) ?_
          · clear hx
            go_simp
            first | done | rfl | exact haI | exact hdI
          refine wpAnyH_tk 5 (some 34) (.int .u8 (d : Int)) rfl rfl (by kernel_rfl) (fun _ _ _ h => h) trivial (Or.inl ⟨by kernel_rfl, fun z hx => ?_⟩) ?_
          · clear hx
            go_simp
            first | done | rfl | exact haI | exact hdI
          refine wpAnyH_tk 6 (some 35) (.int .u8 ((hexD d).toNat : Int)) rfl rfl (by kernel_rfl) (fun _ _ _ h => h) trivial (Or.inl ⟨by kernel_rfl, fun z hx => ?_⟩) ?_
          · clear hx
            go_simp
            first | done | rfl | exact haI | exact hdI
          refine wpAnyH_one 7 rfl (by kernel_rfl) (fun K' hK' => ?_)
          rw [if_pos (by kernel_rfl)]
          go_simp
          refine hK' _ _ trivial ?_
          clear hK'
          refine wpAnyH_one 8 rfl (by kernel_rfl) (fun K' hK' => ?_)
          rw [if_pos (by kernel_rfl)]
          refine wp_append_own _ _ _ 56 rfl B 5 i0 (.int .u8 0) 1 1 Tryd.underlying56 hi hz0 hz1 hz2 rfl (by decide) o X.length (Lib.byteCells X) rfl (HO.out.drew.alloc _) ⟨wr.heap.size, 0, none⟩ 4 4 [.int .u8 92, .int .u8 120, .int .u8 ((hexD a).toNat : Int), .int .u8 ((hexD d).toNat : Int)] rfl rfl ?c1 ?c2 ?c3 ?c4 ?c5 ?_
          case c1 =>
            intro j u hj
            rw [add_zero']
            refine (World.cell?_alloc_new (w := wr.drew) ..).trans ?_
            match j, hj with
              | 0, hj => simp at hj; subst hj; rfl
              | 1, hj => simp at hj; subst hj; rfl
              | 2, hj => simp at hj; subst hj; rfl
              | 3, hj => simp at hj; subst hj; rfl
          case c2 => intro u hu; simp at hu; rcases hu with rfl | rfl | rfl | rfl <;> rfl
          case c3 => have := HLL.out; unfold maxLen; omega
          case c4 => have := HLL.out; omega
          case c5 => have := HBw.out.size; have := HBB.out; simp; omega
          intro o2 w3 hown2 hgrow2 _
          have HO2 : Hid (w3.ownsRow B 5 1 o2 (X ++ [92, 120, hexD a, hexD d]).length (Lib.byteCells (X ++ [92, 120, hexD a, hexD d]))) := Lib.hid (by rw [List.length_append, Lib.byteCells_append]; exact hown2)
          have HB2 : Hid (Below B w2 w3) := Lib.hid ((HBw.out.drew.alloc (by have := HBw.out.size; have := HBB.out; simp; omega) _).grown hgrow2 (by have := HBw.out.size; have := HBB.out; simp; omega) (fun k hk => (HO.out.lt k hk).1))
          clear hown2 hgrow2
          refine hK' _ _ trivial ?_
          clear hK'
          refine wpAnyH_one 9 rfl (by kernel_rfl) (fun K' hK' => ?_)
          rw [if_pos (by kernel_rfl)]
          go_simp
          refine hK' _ _ trivial ?_
          clear hK'
          refine wpAnyH_done (by kernel_rfl) ?_ _
          go_simp
          go_wp2
          go_round
          case rel => exact ⟨q + 1, o2, by go_num, rfl, by omega, Lib.hid (by rw [HX1.out]; exact HO2.out), HB2⟩
          case measure => simp only [intOf]; omega
      · have e8 : (c.toNat : Int) < 32 := by omega
        have hesc := esc_f ha hb hc hd (by omega)
        clear ha hb hc hd he
        obtain ⟨a, ha⟩ : ∃ a, a = c.toNat / 16 := ⟨_, rfl⟩
        have ha16 : a < 16 := by have := c.toNat_lt; omega
        have haI : (c.toNat : Int) / 16 = (a : Int) := by omega
        obtain ⟨d, hd⟩ : ∃ d, d = c.toNat % 16 := ⟨_, rfl⟩
        have hd16 : d < 16 := by omega
        have hdI : bits .and .u8 (c.toNat : Int) 15 = (d : Int) := by rw [hd]; exact and15 c
        rw [← ha, ← hd] at hesc
        have HX1 : Hid (34 :: inner ((L s).take (q + 1)) = X ++ [92, 120, hexD a, hexD d]) := Lib.hid (by rw [hnext.out, hesc])
        have hidx := fun w => hex_at a ha16 w
        have hidy := fun w => hex_at d hd16 w
        clear ha hd ha16 hd16 hesc
        go_upto_region 10 with fail
        refine wp_region_H (fun _ => True) (by kernel_rfl) ?_
        refine wpAnyH_tk 0 (some 29) (o) rfl rfl (by kernel_rfl) (fun _ _ _ h => h) trivial (Or.inl ⟨by kernel_rfl, fun z hx => ?_⟩) ?_
        · clear hx
          go_simp
          first | done | rfl | exact haI | exact hdI
        refine wpAnyH_tk 1 (some 30) (.int .u8 (c.toNat : Int)) rfl rfl (by kernel_rfl) (fun _ _ _ h => h) trivial (Or.inl ⟨by kernel_rfl, fun z hx => ?_⟩) ?_
        · clear hx
          go_simp
          first | done | rfl | exact haI | exact hdI
        refine wpAnyH_tk 2 (some 31) (.int .u8 (a : Int)) rfl rfl (by kernel_rfl) (fun _ _ _ h => h) trivial (Or.inl ⟨by kernel_rfl, fun z hx => ?_⟩) ?_
        · clear hx
          go_simp
          first | done | rfl | exact haI | exact hdI
        refine wpAnyH_tk 3 (some 32) (.int .u8 ((hexD a).toNat : Int)) rfl rfl (by kernel_rfl) (fun _ _ _ h => h) trivial (Or.inl ⟨by kernel_rfl, fun z hx => ?_⟩) ?_
        · clear hx
          go_simp
          first | done | rfl | exact haI | exact hdI
        refine wpAnyH_tk 4 (some 33) (.int .u8 (c.toNat : Int)) rfl rfl (by kernel_rfl) (fun _ _ _ h => h) trivial (Or.inl ⟨by kernel_rfl, fun z hx => ?_⟩) ?_
        · clear hx
          go_simp
          first | done | rfl | exact haI | exact hdI
        refine wpAnyH_tk 5 (some 34) (.int .u8 (d : Int)) rfl rfl (by kernel_rfl) (fun _ _ _ h => h) trivial (Or.inl ⟨by kernel_rfl, fun z hx => ?_⟩) ?_
        · clear hx
          go_simp
          first | done | rfl | exact haI | exact hdI
        refine wpAnyH_tk 6 (some 35) (.int .u8 ((hexD d).toNat : Int)) rfl rfl (by kernel_rfl) (fun _ _ _ h => h) trivial (Or.inl ⟨by kernel_rfl, fun z hx => ?_⟩) ?_
        · clear hx
          go_simp
          first | done | rfl | exact haI | exact hdI
        refine wpAnyH_one 7 rfl (by kernel_rfl) (fun K' hK' => ?_)
        rw [if_pos (by kernel_rfl)]
        go_simp
        refine hK' _ _ trivial ?_
        clear hK'
        refine wpAnyH_one 8 rfl (by kernel_rfl) (fun K' hK' => ?_)
        rw [if_pos (by kernel_rfl)]
        refine wp_append_own _ _ _ 56 rfl B 5 i0 (.int .u8 0) 1 1 Tryd.underlying56 hi hz0 hz1 hz2 rfl (by decide) o X.length (Lib.byteCells X) rfl (HO.out.drew.alloc _) ⟨wr.heap.size, 0, none⟩ 4 4 [.int .u8 92, .int .u8 120, .int .u8 ((hexD a).toNat : Int), .int .u8 ((hexD d).toNat : Int)] rfl rfl ?c1 ?c2 ?c3 ?c4 ?c5 ?_
        case c1 =>
          intro j u hj
          rw [add_zero']
          refine (World.cell?_alloc_new (w := wr.drew) ..).trans ?_
          match j, hj with
            | 0, hj => simp at hj; subst hj; rfl
            | 1, hj => simp at hj; subst hj; rfl
            | 2, hj => simp at hj; subst hj; rfl
            | 3, hj => simp at hj; subst hj; rfl
        case c2 => intro u hu; simp at hu; rcases hu with rfl | rfl | rfl | rfl <;> rfl
        case c3 => have := HLL.out; unfold maxLen; omega
        case c4 => have := HLL.out; omega
        case c5 => have := HBw.out.size; have := HBB.out; simp; omega
        intro o2 w3 hown2 hgrow2 _
        have HO2 : Hid (w3.ownsRow B 5 1 o2 (X ++ [92, 120, hexD a, hexD d]).length (Lib.byteCells (X ++ [92, 120, hexD a, hexD d]))) := Lib.hid (by rw [List.length_append, Lib.byteCells_append]; exact hown2)
        have HB2 : Hid (Below B w2 w3) := Lib.hid ((HBw.out.drew.alloc (by have := HBw.out.size; have := HBB.out; simp; omega) _).grown hgrow2 (by have := HBw.out.size; have := HBB.out; simp; omega) (fun k hk => (HO.out.lt k hk).1))
        clear hown2 hgrow2
        refine hK' _ _ trivial ?_
        clear hK'
        refine wpAnyH_one 9 rfl (by kernel_rfl) (fun K' hK' => ?_)
        rw [if_pos (by kernel_rfl)]
        go_simp
        refine hK' _ _ trivial ?_
        clear hK'
        refine wpAnyH_done (by kernel_rfl) ?_ _
        go_simp
        go_wp2
        go_round
        case rel => exact ⟨q + 1, o2, by go_num, rfl, by omega, Lib.hid (by rw [HX1.out]; exact HO2.out), HB2⟩
        case measure => simp only [intOf]; omega
    · have hqe : q = n := by omega
      have hX1 : Hid (34 :: inner ((L s).take q) = 34 :: inner (L s)) := Lib.hid (by rw [List.take_of_length_le (by rw [L_len, hqe, HN.out]; exact Nat.le_refl _)])
      have hqI : ¬ (q : Int) < (n : Int) := by omega
      rw [hX1.out] at HO
      have hll : (34 :: inner (L s)).length ≤ 1021 := by
        have := inner_len (L s)
        simp only [List.length_cons, L_len] at this ⊢
        omega
      obtain ⟨X, hX⟩ : ∃ X, X = 34 :: inner (L s) := ⟨_, rfl⟩
      have HX : Hid (V = X ++ [34]) := Lib.hid (by rw [hV.out, hX]; rfl)
      rw [← hX] at HO hll
      have HLL := Lib.hid hll
      clear hll hqe hq hX hX1
      go_upto_region 21 with fail
      go_wp2_with (at_builtin; refine wpList_append_own _ rfl _ _ 56 rfl B 5 i0 (.int .u8 0) 1 1 Tryd.underlying56 hi hz0 hz1 hz2 rfl (by decide) o X.length (Lib.byteCells X) rfl (HO.out.alloc _) ⟨wr.heap.size, 0, none⟩ 1 1 [.int .u8 34] rfl rfl (cell_one_new _ _ _) (by intro u hu; simp at hu; subst hu; rfl) (by have := HLL.out; unfold maxLen; omega) (by have := HLL.out; omega) (by have := HBw.out.size; have := HBB.out; simp; omega) ?_)
      intro o2 w3 hown2 hgrow2 _
      have HO2 : Hid (w3.ownsRow B 5 1 o2 (X ++ [34]).length (Lib.byteCells (X ++ [34]))) := Lib.hid (by rw [List.length_append, Lib.byteCells_append]; exact hown2)
      have HB2 : Hid (Below B w2 w3) := Lib.hid ((HBw.out.alloc (by have := HBw.out.size; have := HBB.out; omega) _).grown hgrow2 (by have := HBw.out.size; have := HBB.out; simp; omega) (fun k hk => (HO.out.lt k hk).1))
      clear hown2 hgrow2
      rw [← HX.out] at HO2
      have hcv := row_string HO2.out
      clear HO
      go_wp2
      all_goals go_ret
      exact ⟨rfl, HB.out.trans (HB2.out.mono (by have := HBB.out; have := HLT.out; have := HBE.out; omega))⟩
end Go.Proofs.YtijmogehmcjopaaDoor
