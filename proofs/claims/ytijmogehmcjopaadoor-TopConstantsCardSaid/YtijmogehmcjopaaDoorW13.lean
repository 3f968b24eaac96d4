/-
  The walk of sym.quoted. Conditions: at most 255 bytes.
-/
import Derived.Test.YtijmogehmcjopaaDoorW12
import Derived.Laws.BitsAllLaws
namespace Go.Proofs.YtijmogehmcjopaaDoor
open Go.RowKit Ct

theorem Below.grow {w w' : World} (h : Below w.heap.size w w') : w.grownBy w' none := ⟨h.os, h.tape, h.output, h.size, fun k hk _ => h.block k hk⟩
theorem Bd.up {G : Option Nat} {B b : Nat} {l : List UInt8} {w w' : World} (h : Bd G B b l w) (k : Below w.heap.size w w') : Bd G B b l w' := by
  obtain ⟨p, v, hp, hb, ho, h1, h2⟩ := h.at'
  refine ⟨h.lo, fun g e => ⟨(h.gb g e).1, Nat.lt_of_lt_of_le (h.gb g e).2 k.size⟩, p, v, hp, ?_, ho.kept (Below.grow k) (by cases v.ownBlock <;> simp), h1, h2⟩
  rw [k.block b (heap_lt hb)]; exact hb
theorem Bd.fresh (w : World) : Bd none w.heap.size w.heap.size [] (w.alloc (.cells #[.pointer none, .slice none 0 0] 70)) :=
  ⟨Nat.le_refl _, fun _ e => by simp at e, .pointer none, .slice none 0 0, .inl rfl, heap_alloc_new w _, World.ownsRow_nil _ _ _ _, by simp [Value.ownBlock], fun _ e => by simp at e⟩
theorem Bd.with' {B b g : Nat} {l : List UInt8} {w w' : World} (h : Bd none B b l w) (k : Below w.heap.size w w') (hg : w.heap.size ≤ g) (hg' : g < w'.heap.size) : Bd (some g) B b l w' := by
  have hb' := h.up k
  obtain ⟨p, v, hp, hb, ho, h1, h2⟩ := h.at'
  have hbl := heap_lt hb
  refine ⟨h.lo, fun g' e => ?_, p, v, hp, ?_, ho.kept (Below.grow k) (by cases v.ownBlock <;> simp), h1, fun g' e => ?_⟩
  · cases e; exact ⟨by omega, hg'⟩
  · rw [k.block b hbl]; exact hb
  · cases e
    intro e
    have := (ho.lt g e).2
    omega

theorem esc_letter {c : UInt8} (h : letterN c ≠ 0) : esc c = [92, UInt8.ofNat (letterN c)] := by
  unfold esc letterN at *
  by_cases h1 : c.toNat = 34 ∨ c.toNat = 92
  · rw [if_pos h1, if_pos h1]; simp
  rw [if_neg h1] at h ⊢
  rw [if_neg h1]
  by_cases h2 : c.toNat = 10
  · rw [if_pos h2, if_pos h2]; rfl
  rw [if_neg h2] at h ⊢
  rw [if_neg h2]
  by_cases h3 : c.toNat = 9
  · rw [if_pos h3, if_pos h3]; rfl
  rw [if_neg h3] at h ⊢
  rw [if_neg h3]
  by_cases h4 : c.toNat = 13
  · rw [if_pos h4, if_pos h4]; rfl
  rw [if_neg h4] at h
  exact absurd rfl h
theorem esc_none {c : UInt8} (h : letterN c = 0) : esc c = if 32 ≤ c.toNat ∧ c.toNat ≤ 126 then [c] else [92, 120, hexD (c.toNat / 16), hexD (c.toNat % 16)] := by
  unfold esc
  unfold letterN at h
  by_cases h1 : c.toNat = 34 ∨ c.toNat = 92
  · rw [if_pos h1] at h; omega
  rw [if_neg h1] at h ⊢
  by_cases h2 : c.toNat = 10
  · rw [if_pos h2] at h; omega
  rw [if_neg h2] at h ⊢
  by_cases h3 : c.toNat = 9
  · rw [if_pos h3] at h; omega
  rw [if_neg h3] at h ⊢
  by_cases h4 : c.toNat = 13
  · rw [if_pos h4] at h; omega
  rw [if_neg h4]
theorem esc_len (c : UInt8) : (esc c).length ≤ 4 := by
  unfold esc
  repeat' split
  all_goals simp
theorem inner_len (l : List UInt8) : (inner l).length ≤ 4 * l.length := by
  induction l with
  | nil => simp [inner]
  | cons c l ih => have := esc_len c; simp only [inner, List.flatMap_cons, List.length_append, List.length_cons] at ih ⊢; omega
theorem letter_lt (c : UInt8) : letterN c < 256 := by
  unfold letterN
  have := c.toNat_lt
  repeat' split
  all_goals omega
theorem hex_at (a : Nat) (h : a < 16) (w : World) : (Instr.index 9 (.string ⟨#[48, 49, 50, 51, 52, 53, 54, 55, 56, 57, 97, 98, 99, 100, 101, 102]⟩) (.int .u8 (a : Int))).run Tryd.prog w = .ok (.int .u8 ((hexD a).toNat : Int)) w := by
  have h1 : ∀ k : Fin 16, ((⟨#[48, 49, 50, 51, 52, 53, 54, 55, 56, 57, 97, 98, 99, 100, 101, 102]⟩ : ByteArray)[k.val]'k.isLt) = hexD k.val := by decide
  have h2 : (⟨#[48, 49, 50, 51, 52, 53, 54, 55, 56, 57, 97, 98, 99, 100, 101, 102]⟩ : ByteArray)[a]? = some (hexD a) := by
    rw [getElem?_pos _ a h]
    exact congrArg some (h1 ⟨a, h⟩)
  simp [Instr.index, asIntOf, run_underlying Tryd.underlying9, h2]
theorem and15 (c : UInt8) : bits .and .u8 (c.toNat : Int) 15 = ((c.toNat % 16 : Nat) : Int) := by
  have h := u8_and_nat c.toNat 15 c.toNat_lt (by decide)
  rw [show (c.toNat &&& 15) = c.toNat % 16 from Nat.and_two_pow_sub_one_eq_mod _ 4] at h
  exact h
/-- What String tells. -/
def StrTells (w : World) : Prop := ∀ (G : Option Nat) (B b : Nat) (l : List UInt8) (w' : World), Bd G B b l w' → B ≤ w'.heap.size → Below B w w' → Calls Tryd.prog 40 #[.pointer (some ⟨b, 0, none⟩)] w' fun e w'' => e = .returned (.string ⟨l.toArray⟩) ∧ Below B w' w''

set_option maxHeartbeats 3200000 in
set_option maxRecDepth 100000 in
theorem quoted_any (s : ByteArray) (w : World) (hs : s.size ≤ 255) (hstr : StrTells w) : Calls Tryd.prog 21 #[.string s] w fun e w' => e = .returned (.string ⟨(Ct.quoted (L s)).toArray⟩) ∧ Below w.heap.size w w' := by
  obtain ⟨V, hV⟩ : ∃ V, V = Ct.quoted (L s) := ⟨_, rfl⟩
  rw [← hV]
  have HV := Lib.hid hV
  clear hV
  obtain ⟨B, hB⟩ : ∃ B, B = w.heap.size := ⟨_, rfl⟩
  go_enter Tryd.func21, Tryd.ntmps21
  go_upto_region 2 with fail
  obtain ⟨w1, hw1⟩ : ∃ w1, w1 = w.alloc (.cells #[.pointer none, .slice none 0 0] 70) := ⟨_, rfl⟩
  change Code.wp Tryd.prog _ _ _ (w.alloc (.cells #[.pointer none, .slice none 0 0] 70))
  rw [← hw1]
  have b1 : Below B w w1 := by rw [hw1, hB]; exact up_alloc _ _
  have d1 : Bd none B B [] w1 := by rw [hw1, hB]; exact Bd.fresh w
  have s1 : B ≤ w1.heap.size := by have := b1.size; omega
  clear hw1
  have HB := Lib.hid hB
  have c2 := writeByte_any 34 d1 (by simp) s1
  rw [← hB]
  clear hB
  go_upto_region 3 with (go_at_call 36; refine c2.mono ?_)
  rintro e w2 ⟨rfl, d2, -, s2, b2⟩
  have B2 : Hid (Below B w w2) := Lib.hid (b1.trans b2)
  have S2 : B ≤ w2.heap.size := by omega
  clear c2 d1
  have hcv := Lib.run_convert_string_bytes w2 9 56 5 s Tryd.underlying9 Tryd.underlying56 Tryd.underlying5
  obtain ⟨wb, hwb⟩ : ∃ wb, wb = Lib.bytesWorld w2 5 s := ⟨_, rfl⟩
  have hb2 : Below w2.heap.size w2 wb := by rw [hwb]; exact Joins.below_bytesWorld _ w2 5 _ (Nat.le_refl _)
  have hcell : Hid (∀ j, (hj : j < s.size) → wb.cell? ⟨w2.heap.size, j, none⟩ = some (.int .u8 (s[j].toNat : Int))) := Lib.hid fun j hj => by
    rw [hwb, Lib.bytesWorld_cell w2 5 s j hj]
    have e : s.data.toList.getD j 0 = s[j] := by
      rw [← L_get hj, List.getD_eq_getElem?_getD]
      show ((L s)[j]?).getD 0 = _
      rw [List.getElem?_eq_getElem (by rw [L_len]; exact hj)]; rfl
    rw [e]
  rw [← hwb] at hcv
  have hszb : wb.heap.size = w2.heap.size + 1 := by rw [hwb]; exact Lib.bytesWorld_size _ _ _
  obtain ⟨g, hg⟩ : ∃ g, g = w2.heap.size := ⟨_, rfl⟩
  have D3 : Hid (Bd (some g) B B [34] wb) := Lib.hid (d2.with' hb2 (by omega) (by omega))
  have B3 : Hid (Below B w wb) := Lib.hid (B2.out.trans (hb2.mono S2))
  obtain ⟨cap, hcap⟩ : ∃ cap, cap = grownCap w2 s.size 0 5 := ⟨_, rfl⟩
  rw [← hcap, ← hg] at hcv
  rw [← hg] at hcell
  clear hwb hcap hb2 hszb
  obtain ⟨n, hn⟩ : ∃ n, n = s.size := ⟨_, rfl⟩
  rw [← hn] at hcv
  have HN := Lib.hid hn
  have HG := Lib.hid hg
  clear hn hg
  go_upto_region 4 with fail
  clear hcv
  go_loopw [11] (fun k wr => ∃ q : Nat, k = .int .i64 (q : Int) ∧ q ≤ n ∧ Hid (Bd (some g) B B (34 :: inner ((L s).take q)) wr) ∧ Hid (Fr (some g) wb wr) ∧ Hid (B ≤ wr.heap.size) ∧ Hid (Below B w wr)) (fun k _ => n - (intOf k).toNat)
  case atStart => exact ⟨0, rfl, by omega, D3, Lib.hid Fr.refl, Lib.hid (by have := B3.out.size; have := HB.out; omega), B3⟩
  case round =>
    obtain ⟨q, rfl, hq, HD, HF, HS, HBw⟩ := hrel
    by_cases hqn : q < n
    · have hqI : (q : Int) < (n : Int) := by omega
      have hq0 : (0 : Int) ≤ (q : Int) := by omega
      have hqs : q < s.size := by rw [← HN.out]; exact hqn
      obtain ⟨c, hc⟩ : ∃ c, c = s[q] := ⟨_, rfl⟩
      have hcq : wr.cell? ⟨g, q, none⟩ = some (.int .u8 (c.toNat : Int)) := by
        have := hcell.out q hqs
        rw [← hc] at this
        simp only [World.cell?, HF.out g rfl] at this ⊢
        exact this
      have hll : (34 :: inner ((L s).take q)).length ≤ 1021 := by
        have := inner_len ((L s).take q)
        simp only [List.length_cons, List.length_take, L_len] at this ⊢
        omega
      have hnext : Hid (34 :: inner ((L s).take (q + 1)) = (34 :: inner ((L s).take q)) ++ esc c) := by
        apply Lib.hid
        rw [List.take_succ_eq_append_getElem (by rw [L_len]; exact hqs), L_get hqs, ← hc]
        simp [inner]
      have HLL := Lib.hid hll
      have HXN := Lib.hid (show 0 < (34 :: inner ((L s).take q)).length by simp)
      clear hll hc hqs
      have c37 := letter_any c
      obtain ⟨m, hm⟩ : ∃ m, m = letterN c := ⟨_, rfl⟩
      rw [← hm] at c37
      have HM := Lib.hid hm
      have hm256 : m < 256 := by rw [hm]; exact letter_lt c
      clear hm
      obtain ⟨X, hX⟩ : ∃ X, X = 34 :: inner ((L s).take q) := ⟨_, rfl⟩
      rw [← hX] at HD hnext HLL HXN
      clear hX
      have hw1 : IntKind.i64.wrap ((q : Int) + 1) = (q : Int) + 1 := by have := HN.out; rw [IntKind.wrap_i64]; omega
      by_cases hm0 : m = 0
      · have e1 : ((m : Int) != 0) = false := by rw [hm0]; rfl
        by_cases h32 : 32 ≤ c.toNat
        · by_cases h126 : c.toNat ≤ 126
          · have e2 : (32 : Int) ≤ (c.toNat : Int) := by omega
            have e3 : (c.toNat : Int) ≤ 126 := by omega
            have cw := writeByte_any c HD.out (by have := HLL.out; omega) HS.out
            have hX1 : Hid (34 :: inner ((L s).take (q + 1)) = X ++ [c]) := Lib.hid (by rw [hnext.out, esc_none (by rw [← HM.out]; exact hm0), if_pos ⟨h32, h126⟩])
            clear hm0 h32 h126
            go_wp2_with (first | (go_at_call 37; refine (c37 _).mono ?_; rintro e w' ⟨rfl, hw⟩; rw [hw]) | (go_at_call 36; refine cw.mono ?_; rintro e w' ⟨rfl, hd, hf, hsz, hbw⟩))
            go_round
            case rel => exact ⟨q + 1, by go_num, by omega, Lib.hid (by rw [hX1.out]; exact hd), Lib.hid (HF.out.trans hf), Lib.hid (by have := HS.out; omega), Lib.hid (HBw.out.trans hbw)⟩
            case measure => simp only [intOf]; omega
          · have e2 : (32 : Int) ≤ (c.toNat : Int) := by omega
            have e3 : (126 : Int) < (c.toNat : Int) := by omega
            have hX1 : Hid (34 :: inner ((L s).take (q + 1)) = X ++ [92, 120, hexD (c.toNat / 16), hexD (c.toNat % 16)]) := Lib.hid (by rw [hnext.out, esc_none (by rw [← HM.out]; exact hm0), if_neg (by omega)])
            clear hm0 h32 h126
            have cs := writeString_any ⟨#[92, 120]⟩ HD.out (by have := HLL.out; omega) HS.out (by have := HXN.out; omega) (by decide)
            obtain ⟨a, ha⟩ : ∃ a, a = c.toNat / 16 := ⟨_, rfl⟩
            have ha16 : a < 16 := by have := c.toNat_lt; omega
            have haI : (c.toNat : Int) / 16 = (a : Int) := by omega
            obtain ⟨d, hd⟩ : ∃ d, d = c.toNat % 16 := ⟨_, rfl⟩
            have hd16 : d < 16 := by omega
            have hdI : bits .and .u8 (c.toNat : Int) 15 = (d : Int) := by rw [hd]; exact and15 c
            rw [← ha, ← hd] at hX1
            have hidx := fun w => hex_at a ha16 w
            have hidy := fun w => hex_at d hd16 w
            clear ha hd ha16 hd16
            go_upto_region 8 with (first | (go_at_call 37; refine (c37 _).mono ?_; rintro e w' ⟨rfl, hw⟩; rw [hw]) | (go_at_call 39; refine cs.mono ?_; rintro e w4 ⟨rfl, hd4, hf4, hsz4, hbw4⟩))
            have cw := writeByte_any (hexD a) hd4 (by have := HLL.out; simp [L]; omega) (by have := HS.out; omega)
            have HSZ4 := Lib.hid hsz4
            clear hsz4
            go_upto_region 9 with (go_at_call 36; refine cw.mono ?_; rintro e w5 ⟨rfl, hd5, hf5, hsz5, hbw5⟩)
            have cw2 := writeByte_any (hexD d) hd5 (by have := HLL.out; simp [L]; omega) (by have := HS.out; have := HSZ4.out; omega)
            have HSZ5 := Lib.hid hsz5
            clear cw hsz5
            go_wp2_with (go_at_call 36; refine cw2.mono ?_; rintro e w6 ⟨rfl, hd6, hf6, hsz6, hbw6⟩)
            go_round
            case rel => exact ⟨q + 1, by go_num, by omega, Lib.hid (by rw [hX1.out]; simpa [L] using hd6), Lib.hid (((HF.out.trans hf4).trans hf5).trans hf6), Lib.hid (by have := HS.out; have := HSZ4.out; have := HSZ5.out; omega), Lib.hid (((HBw.out.trans hbw4).trans hbw5).trans hbw6)⟩
            case measure => simp only [intOf]; omega
        · have e2 : (c.toNat : Int) < 32 := by omega
          have hX1 : Hid (34 :: inner ((L s).take (q + 1)) = X ++ [92, 120, hexD (c.toNat / 16), hexD (c.toNat % 16)]) := Lib.hid (by rw [hnext.out, esc_none (by rw [← HM.out]; exact hm0), if_neg (by omega)])
          clear hm0 h32
          have cs := writeString_any ⟨#[92, 120]⟩ HD.out (by have := HLL.out; omega) HS.out (by have := HXN.out; omega) (by decide)
          obtain ⟨a, ha⟩ : ∃ a, a = c.toNat / 16 := ⟨_, rfl⟩
          have ha16 : a < 16 := by have := c.toNat_lt; omega
          have haI : (c.toNat : Int) / 16 = (a : Int) := by omega
          obtain ⟨d, hd⟩ : ∃ d, d = c.toNat % 16 := ⟨_, rfl⟩
          have hd16 : d < 16 := by omega
          have hdI : bits .and .u8 (c.toNat : Int) 15 = (d : Int) := by rw [hd]; exact and15 c
          rw [← ha, ← hd] at hX1
          have hidx := fun w => hex_at a ha16 w
          have hidy := fun w => hex_at d hd16 w
          clear ha hd ha16 hd16
          go_upto_region 8 with (first | (go_at_call 37; refine (c37 _).mono ?_; rintro e w' ⟨rfl, hw⟩; rw [hw]) | (go_at_call 39; refine cs.mono ?_; rintro e w4 ⟨rfl, hd4, hf4, hsz4, hbw4⟩))
          have cw := writeByte_any (hexD a) hd4 (by have := HLL.out; simp [L]; omega) (by have := HS.out; omega)
          have HSZ4 := Lib.hid hsz4
          clear hsz4
          go_upto_region 9 with (go_at_call 36; refine cw.mono ?_; rintro e w5 ⟨rfl, hd5, hf5, hsz5, hbw5⟩)
          have cw2 := writeByte_any (hexD d) hd5 (by have := HLL.out; simp [L]; omega) (by have := HS.out; have := HSZ4.out; omega)
          have HSZ5 := Lib.hid hsz5
          clear cw hsz5
          go_wp2_with (go_at_call 36; refine cw2.mono ?_; rintro e w6 ⟨rfl, hd6, hf6, hsz6, hbw6⟩)
          go_round
          case rel => exact ⟨q + 1, by go_num, by omega, Lib.hid (by rw [hX1.out]; simpa [L] using hd6), Lib.hid (((HF.out.trans hf4).trans hf5).trans hf6), Lib.hid (by have := HS.out; have := HSZ4.out; have := HSZ5.out; omega), Lib.hid (((HBw.out.trans hbw4).trans hbw5).trans hbw6)⟩
          case measure => simp only [intOf]; omega
      · have e1 : ((m : Int) != 0) = true := by simp; omega
        have hX1 : Hid (34 :: inner ((L s).take (q + 1)) = X ++ [92, UInt8.ofNat m]) := Lib.hid (by rw [hnext.out, esc_letter (by rw [← HM.out]; exact hm0), ← HM.out])
        clear hm0
        have hD1 : Hid (Bd (some g) B B X (wr.alloc (.cells #[.int .u8 92, .int .u8 (m : Int)] 5))) := Lib.hid (HD.out.up (up_alloc _ _))
        have hb1 := Lib.hid (show Below B wr (wr.alloc (.cells #[.int .u8 92, .int .u8 (m : Int)] 5)) from (up_alloc _ _).mono HS.out)
        have hF1 : Hid (Fr (some g) wr (wr.alloc (.cells #[.int .u8 92, .int .u8 (m : Int)] 5))) := Lib.hid fun k e => Lib.alloc_old wr _ k (HD.out.gb k e).2
        have cw := write_any 2 wr.heap.size [92, UInt8.ofNat m] hD1.out (by have := HLL.out; omega) (by have := HS.out; simp; omega) rfl (by omega) (by have := heap_lt (HD.out.at').choose_spec.choose_spec.2.1; omega) (by
          intro j u hj
          rw [World.cell?_alloc_new]
          match j, hj with
          | 0, hj => simp [Lib.byteCells] at hj; subst hj; rfl
          | 1, hj => simp [Lib.byteCells, UInt8.toNat_ofNat'] at hj; subst hj; simp; omega)
        go_wp2_with (first | (go_at_call 37; refine (c37 _).mono ?_; rintro e w' ⟨rfl, hw⟩; rw [hw]) | (go_at_call 38; refine cw.mono ?_; rintro e w' ⟨rfl, hd, hf, hsz, hbw⟩))
        go_round
        case rel => exact ⟨q + 1, by go_num, by omega, Lib.hid (by rw [hX1.out]; exact hd), Lib.hid ((HF.out.trans hF1.out).trans hf), Lib.hid (by have := HS.out; have := hb1.out.size; omega), Lib.hid ((HBw.out.trans hb1.out).trans hbw)⟩
        case measure => simp only [intOf]; omega
    · have hqe : q = n := by omega
      have hX1 : Hid (34 :: inner ((L s).take q) = 34 :: inner (L s)) := Lib.hid (by rw [List.take_of_length_le (by rw [L_len, hqe, HN.out]; exact Nat.le_refl _)])
      have hqI : ¬ (q : Int) < (n : Int) := by omega
      rw [hX1.out] at HD
      have hll : (34 :: inner (L s)).length ≤ 1021 := by
        have := inner_len (L s)
        simp only [List.length_cons, L_len] at this ⊢
        omega
      have cw := writeByte_any 34 HD.out (by omega) HS.out
      have HC := Lib.hid hcell
      clear hll hqe hq
      go_upto_region 16 with (go_at_call 36; refine cw.mono ?_; rintro e w5 ⟨rfl, hd, hfr, hsz, hbw⟩)
      have hb5 : Below B w w5 := HBw.out.trans hbw
      have ct := hstr (some g) B B _ w5 hd (by have := HS.out; omega) hb5
      go_wp2_with (go_at_call 40; refine ct.mono ?_; rintro e w6 ⟨rfl, hb6⟩)
      all_goals go_ret
      refine ⟨?_, ?_⟩
      · rw [HV.out]; rfl
      · have := hb5.trans hb6
        rw [HB.out] at this
        exact this
end Go.Proofs.YtijmogehmcjopaaDoor
