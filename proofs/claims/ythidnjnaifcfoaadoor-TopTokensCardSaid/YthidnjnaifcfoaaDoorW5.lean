/-
  The walk of edicttop.stuckInt. Conditions: the text is at most 65536 bytes long; an integer begins at the place.
-/
import Derived.Test.YthidnjnaifcfoaaDoorW4
namespace Go.Proofs.YthidnjnaifcfoaaDoor
open Go.RowKit Go.Shelf Pl


theorem Tryd.size25 : (Tryd.prog.info? 25).map (·.size) = some 3 := by kernel_rfl
def FaultV (code off : Nat) : Value := .agg #[.int .i64 (code : Int), .int .i64 0, .int .i64 (off : Int)]
/-- What the text's next token is, told by its fault alone. -/
def NxFault (n : Nat) (N : Nx) : Nat × Nat :=
  match N with
  | .fault code a => (code, n - a.length)
  | _ => (0, 0)
theorem isD_isW {c : UInt8} (h : isD c = true) : isW c = true := by simp [isW, h]
theorem next_int {c : UInt8} {g : List UInt8} (h : isD c = true ∨ (c.toNat = 45 ∧ hdP isD g = true)) :
    next (c :: g) = if (g.takeWhile isW).all isD then
      match intV ((c :: g).take ((c :: g).length - (g.dropWhile isW).length)) with
      | some v => .tok 3 0 [] v (g.dropWhile isW)
      | none => .fault 13 (c :: g)
    else .fault 13 (c :: g) := by
  by_cases hc : isD c = true
  · simp only [next]
    rw [if_pos hc]
    unfold nextInt
    rw [List.takeWhile_cons_of_pos (isD_isW hc), List.dropWhile_cons_of_pos (isD_isW hc), List.all_cons, hc, Bool.true_and]
    rfl
  · have h' := h.resolve_left hc
    simp only [next]
    rw [if_neg hc, if_pos h']
    rfl

theorem cut_drop (s : ByteArray) (o q : Nat) : L (s.extract o q) = ((L s).drop o).take (q - o) := L_extract s o q
theorem stuck_bad {s : ByteArray} {o : Nat} {T : Nat × Nat} (ho : o < s.size) (hst : isD s[o] = true ∨ (s[o].toNat = 45 ∧ hdP isD ((L s).drop (o + 1)) = true)) (hT : T = NxFault s.size (next ((L s).drop o)))
    (h : (((L s).drop (o + 1)).takeWhile isW).all isD = false) : T = (13, o) := by
  rw [hT, L_drop ho, next_int hst, h, if_neg (by simp)]
  simp only [NxFault]
  rw [← L_drop ho, List.length_drop, L_len, show s.size - (s.size - o) = o by omega]
theorem stuck_ok {s : ByteArray} {o q : Nat} {T : Nat × Nat} (ho : o < s.size) (hq1 : o + 1 ≤ q) (hq : q ≤ s.size) (hst : isD s[o] = true ∨ (s[o].toNat = 45 ∧ hdP isD ((L s).drop (o + 1)) = true)) (hT : T = NxFault s.size (next ((L s).drop o)))
    (h1 : ((L s).drop (o + 1)).dropWhile isW = (L s).drop q) (h2 : (((L s).drop (o + 1)).takeWhile isW).all isD = true) (h3 : (((L s).drop (o + 1)).take (q - (o + 1))).all isD = true) :
    IntSp (L (s.extract o q)) ∧ T = match intV (L (s.extract o q)) with | some _ => (0, 0) | none => (13, o) := by
  have e1 : L (s.extract o q) = s[o] :: ((L s).drop (o + 1)).take (q - (o + 1)) := by
    rw [cut_drop, L_drop ho, show q - o = (q - (o + 1)) + 1 by omega, List.take_succ_cons]
  constructor
  · rw [e1]
    by_cases hc : isD s[o] = true
    · exact ⟨_, .inl rfl, by simp, by rw [List.all_cons, hc, h3]; rfl⟩
    · obtain ⟨hc1, hc2⟩ := hst.resolve_left hc
      refine ⟨((L s).drop (o + 1)).take (q - (o + 1)), .inr ⟨_, rfl, hc1⟩, ?_, h3⟩
      intro h
      have hlen : o + 1 < s.size := by
        rcases Nat.lt_or_ge (o + 1) s.size with h5 | h5
        · exact h5
        · rw [hdP_end (by rw [L_len]; exact h5)] at hc2; cases hc2
      rw [L_drop hlen] at hc2 h1
      rw [List.dropWhile_cons_of_pos (isD_isW (show isD s[o + 1] = true from hc2))] at h1
      have h6 := congrArg List.length h1
      have h7 := (List.dropWhile_suffix isW (l := (L s).drop (o + 1 + 1))).length_le
      have h8 := congrArg List.length h
      rw [List.length_take, List.length_drop, L_len] at h8
      rw [List.length_drop, L_len] at h6 h7
      simp at h8
      omega
  · rw [hT, L_drop ho, next_int hst, h2, if_pos rfl, h1, ← L_drop ho]
    rw [List.length_drop, List.length_drop, L_len, show s.size - o - (s.size - q) = q - o by omega, ← cut_drop]
    cases intV (L (s.extract o q)) with
    | some v => rfl
    | none =>
      simp only [NxFault]
      rw [List.length_drop, L_len, show s.size - (s.size - o) = o by omega]

theorem fault_eq {T : Nat × Nat} {c o : Nat} (h : T = (c, o)) : FaultV c o = FaultV T.1 T.2 := by rw [h]

set_option maxRecDepth 100000 in
set_option maxHeartbeats 3200000 in
theorem stuckInt_any (s : ByteArray) (o : Nat) (w : World) (ho : o < s.size) (hs : s.size ≤ 65536) (hst : isD s[o] = true ∨ (s[o].toNat = 45 ∧ hdP isD ((L s).drop (o + 1)) = true)) :
    Calls Tryd.prog 17 #[.string s, .int .i64 (o : Int)] w fun e w' => e = .returned (FaultV (NxFault s.size (next ((L s).drop o))).1 (NxFault s.size (next ((L s).drop o))).2) ∧ Below w.heap.size w w' := by
  obtain ⟨T, hT⟩ : ∃ T, T = NxFault s.size (next ((L s).drop o)) := ⟨_, rfl⟩
  rw [← hT]
  have HBAD := Lib.hid (stuck_bad ho hst hT)
  have HOK := Lib.hid (fun q (hq1 : o + 1 ≤ q) (hq : q ≤ s.size) => stuck_ok ho hq1 hq hst hT)
  clear hT hst
  have hw1 : IntKind.i64.wrap ((o : Int) + 1) = (o : Int) + 1 := by rw [IntKind.wrap_i64]; omega
  go_enter Tryd.func17, Tryd.ntmps17
  go_wp2
  go_loop [5] (fun k => ∃ q : Nat, k = .int .i64 (q : Int) ∧ o + 1 ≤ q ∧ q ≤ s.size ∧
      Hid (((L s).drop q).dropWhile isW = ((L s).drop (o + 1)).dropWhile isW ∧ (((L s).drop q).takeWhile isW).all isD = (((L s).drop (o + 1)).takeWhile isW).all isD ∧ (((L s).drop (o + 1)).take (q - (o + 1))).all isD = true)) (fun k => s.size - (intOf k).toNat)
  case atStart => exact ⟨o + 1, by go_num, by omega, by omega, Lib.hid ⟨rfl, rfl, by rw [Nat.sub_self]; rfl⟩⟩
  case round =>
    obtain ⟨q, rfl, hq1, hq, HQ⟩ := hrel
    by_cases h1 : q < s.size
    · have k0 : (0 : Int) ≤ (q : Int) := by omega
      have k1 : (q : Int) < (s.size : Int) := by omega
      have k2 : decide ((q : Int) < (s.size : Int)) = true := decide_eq_true (by omega)
      obtain ⟨c, hc⟩ : ∃ c, c = s[q] := ⟨_, rfl⟩
      have HD := Lib.hid (L_drop h1)
      go_wp2_with fail
      refine (wordByte_any _ _).mono ?_
      rintro e w' ⟨rfl, rfl⟩
      rw [← hc] at HD ⊢
      have HC := Lib.hid hc
      clear hc
      cases hw : isW c with
      | true =>
        go_wp2_with fail
        rw [← HC.out]
        refine (digit_any _ _).mono ?_
        rintro e w' ⟨rfl, rfl⟩
        cases hd : isD c with
        | true =>
          have hwq : IntKind.i64.wrap ((q : Int) + 1) = (q : Int) + 1 := by rw [IntKind.wrap_i64]; omega
          have HN : Hid (((L s).drop (q + 1)).dropWhile isW = ((L s).drop (o + 1)).dropWhile isW ∧ (((L s).drop (q + 1)).takeWhile isW).all isD = (((L s).drop (o + 1)).takeWhile isW).all isD ∧ (((L s).drop (o + 1)).take (q + 1 - (o + 1))).all isD = true) := by
            obtain ⟨g1, g2, g3⟩ := HQ.out
            rw [HD.out, List.dropWhile_cons_of_pos hw] at g1
            rw [HD.out, List.takeWhile_cons_of_pos hw, List.all_cons, hd, Bool.true_and] at g2
            refine Lib.hid ⟨g1, g2, ?_⟩
            have h5 : q - (o + 1) < ((L s).drop (o + 1)).length := by rw [List.length_drop, L_len]; omega
            have h6 : ((L s).drop (o + 1))[q - (o + 1)]'h5 = c := by
              have h7 := drop_at h5
              rw [List.drop_drop, show o + 1 + (q - (o + 1)) = q by omega, HD.out] at h7
              injection h7 with h8 _
              exact h8.symm
            rw [show q + 1 - (o + 1) = q - (o + 1) + 1 by omega, List.take_succ_eq_append_getElem h5, h6, List.all_append, g3]
            simp [hd]
          clear HD HQ HC
          go_wp2
          go_round
          case rel => exact ⟨q + 1, by go_num, by omega, by omega, HN⟩
          case measure => simp only [intOf]; omega
        | false =>
          have hf : Hid (T = (13, o)) := Lib.hid (HBAD.out (by
            obtain ⟨g1, g2, g3⟩ := HQ.out
            rw [HD.out, List.takeWhile_cons_of_pos hw, List.all_cons, hd, Bool.false_and] at g2
            exact g2.symm))
          clear HD HQ HC
          go_wp2
          refine bodyPost_ret (results_cell_row rfl _ _ w.heap.size 25 #[.int .i64 13, .int .i64 0, .int .i64 (o : Int)] (0, 0) _ rfl (heap_alloc_new _ _) Tryd.underlying25 rfl Tryd.size25) rfl ?_
          exact ⟨congrArg Ending.returned (fault_eq hf.out), up_alloc _ _⟩
      | false =>
        have hfin : (((L s).drop (o + 1)).dropWhile isW = (L s).drop q) ∧ (((L s).drop (o + 1)).takeWhile isW).all isD = true := by
            obtain ⟨g1, g2, g3⟩ := HQ.out
            rw [HD.out, List.dropWhile_cons_of_neg (by simp [hw])] at g1
            rw [HD.out, List.takeWhile_cons_of_neg (by simp [hw])] at g2
            exact ⟨by rw [← g1, HD.out], by rw [← g2]; rfl⟩
        clear HD HC
        obtain ⟨z, hz⟩ : ∃ z, z = s.extract o q := ⟨_, rfl⟩
        have hsp := HOK.out q hq1 hq hfin.1 hfin.2 HQ.out.2.2
        rw [← hz] at hsp
        have HSP := Lib.hid hsp.1
        have HT2 := Lib.hid hsp.2
        have HZ := Lib.hid hz
        have hzs : z.size = q - o := by rw [← L_len, hz, cut_drop, List.length_take, List.length_drop, L_len]; omega
        have hoq : (o : Int) ≤ (q : Int) := by omega
        have hqs : (q : Int) ≤ (s.size : Int) := by omega
        have ho0 : (0 : Int) ≤ (o : Int) := by omega
        clear hz hsp hfin HQ HOK HBAD
        go_wp2_with fail
        rw [← HZ.out]
        refine (whole_any z _ (by omega) (by omega) HSP.out).mono ?_
        rintro e w' ⟨he, rfl⟩
        cases hV : intV (L z) with
        | some v =>
          rw [hV] at he
          have he2 : e = .returned (.tuple #[.int .i64 v, .bool true]) := he
          subst he2
          have hf : T = (0, 0) := by have := HT2.out; rw [hV] at this; exact this
          have HF := Lib.hid hf
          clear hf
          go_wp2
          refine bodyPost_ret (results_cell_row rfl _ _ w.heap.size 25 #[.int .i64 0, .int .i64 0, .int .i64 0] (0, 0) _ rfl (heap_alloc_new _ _) Tryd.underlying25 rfl Tryd.size25) rfl ?_
          exact ⟨congrArg Ending.returned (fault_eq HF.out), up_alloc _ _⟩
        | none =>
          rw [hV] at he
          obtain ⟨v, he2⟩ : ∃ v, e = .returned (.tuple #[.int .i64 v, .bool false]) := he
          subst he2
          have hf : T = (13, o) := by have := HT2.out; rw [hV] at this; exact this
          have HF := Lib.hid hf
          clear hf
          go_wp2
          refine bodyPost_ret (results_cell_row rfl _ _ w.heap.size 25 #[.int .i64 13, .int .i64 0, .int .i64 (o : Int)] (0, 0) _ rfl (heap_alloc_new _ _) Tryd.underlying25 rfl Tryd.size25) rfl ?_
          exact ⟨congrArg Ending.returned (fault_eq HF.out), up_alloc _ _⟩
    · have e : q = s.size := by omega
      have hfin : (((L s).drop (o + 1)).dropWhile isW = (L s).drop q) ∧ (((L s).drop (o + 1)).takeWhile isW).all isD = true := by
        obtain ⟨g1, g2, g3⟩ := HQ.out
        have h5 : (L s).drop q = [] := List.drop_eq_nil_of_le (by rw [L_len]; omega)
        rw [h5] at g1 g2
        exact ⟨by rw [← g1, h5]; rfl, by rw [← g2]; rfl⟩
      clear e
      have k2 : decide ((q : Int) < (s.size : Int)) = false := decide_eq_false (by omega)
      obtain ⟨z, hz⟩ : ∃ z, z = s.extract o q := ⟨_, rfl⟩
      have hsp := HOK.out q hq1 hq hfin.1 hfin.2 HQ.out.2.2
      rw [← hz] at hsp
      have HSP := Lib.hid hsp.1
      have HT2 := Lib.hid hsp.2
      have HZ := Lib.hid hz
      have hzs : z.size = q - o := by rw [← L_len, hz, cut_drop, List.length_take, List.length_drop, L_len]; omega
      have hoq : (o : Int) ≤ (q : Int) := by omega
      have hqs : (q : Int) ≤ (s.size : Int) := by omega
      have ho0 : (0 : Int) ≤ (o : Int) := by omega
      clear hz hsp hfin HQ HOK HBAD
      go_wp2_with fail
      rw [← HZ.out]
      refine (whole_any z _ (by omega) (by omega) HSP.out).mono ?_
      rintro e w' ⟨he, rfl⟩
      cases hV : intV (L z) with
      | some v =>
        rw [hV] at he
        have he2 : e = .returned (.tuple #[.int .i64 v, .bool true]) := he
        subst he2
        have hf : T = (0, 0) := by have := HT2.out; rw [hV] at this; exact this
        have HF := Lib.hid hf
        clear hf
        go_wp2
        refine bodyPost_ret (results_cell_row rfl _ _ w.heap.size 25 #[.int .i64 0, .int .i64 0, .int .i64 0] (0, 0) _ rfl (heap_alloc_new _ _) Tryd.underlying25 rfl Tryd.size25) rfl ?_
        exact ⟨congrArg Ending.returned (fault_eq HF.out), up_alloc _ _⟩
      | none =>
        rw [hV] at he
        obtain ⟨v, he2⟩ : ∃ v, e = .returned (.tuple #[.int .i64 v, .bool false]) := he
        subst he2
        have hf : T = (13, o) := by have := HT2.out; rw [hV] at this; exact this
        have HF := Lib.hid hf
        clear hf
        go_wp2
        refine bodyPost_ret (results_cell_row rfl _ _ w.heap.size 25 #[.int .i64 13, .int .i64 0, .int .i64 (o : Int)] (0, 0) _ rfl (heap_alloc_new _ _) Tryd.underlying25 rfl Tryd.size25) rfl ?_
        exact ⟨congrArg Ending.returned (fault_eq HF.out), up_alloc _ _⟩
end Go.Proofs.YthidnjnaifcfoaaDoor
