/-
  The walk of lex's reader.word. Conditions: the text is at most 65536 bytes long; the reader lies in a block of its own, at a word's first byte.
-/
import Derived.Test.YthidnjnaifcfoaaDoorK3
namespace Go.Proofs.YthidnjnaifcfoaaDoor
open Go.RowKit Go.Shelf Pl

theorem len3 {α : Type} : ∀ {l : List α}, l.length = 3 → ∃ a b c, l = [a, b, c]
  | [a, b, c], _ => ⟨a, b, c, rfl⟩
theorem not_is {z : ByteArray} (h : (L z).map (·.toNat) = [110, 111, 116]) : z = ⟨#[110, 111, 116]⟩ := by
  have h1 : L z = [110, 111, 116] := by
    have hl : (L z).length = 3 := by have := congrArg List.length h; simpa using this
    obtain ⟨a, b, c, h2⟩ := len3 hl
    rw [h2] at h ⊢
    simp only [List.map_cons, List.map_nil, List.cons.injEq, and_true] at h
    obtain ⟨g1, g2, g3⟩ := h
    have e1 : a = 110 := UInt8.toNat_inj.1 g1
    have e2 : b = 111 := UInt8.toNat_inj.1 g2
    have e3 : c = 116 := UInt8.toNat_inj.1 g3
    rw [e1, e2, e3]
  cases z with
  | mk d =>
    have h3 : d.toList = [110, 111, 116] := h1
    have h4 : d = #[110, 111, 116] := by rw [← Array.toList_inj, h3]
    rw [h4]
theorem L_eq_toList (z : ByteArray) (h : z.toList = [110, 111, 116]) : L z = [110, 111, 116] := by
  rw [ByteArray.toList_eq] at h
  exact h

set_option maxRecDepth 100000 in
set_option maxHeartbeats 3200000 in
theorem word_any (s : ByteArray) (o X : Nat) (w : World) (hs : s.size ≤ 65536) (ho : o < s.size) (hc : isW s[o] = true) (hR : RdB w X s o) :
    Calls Tryd.prog 26 #[.pointer (some ⟨X, 0, none⟩)] w fun e w' => TokIs s X o w (nextWord ((L s).drop o)) e w' := by
  have hX := hR.lt
  obtain ⟨E, hE⟩ : ∃ E, E = s.size - (((L s).drop o).dropWhile isW).length := ⟨_, rfl⟩
  have hrl := run_len ((L s).drop o)
  rw [List.length_drop, L_len] at hrl
  have hEo : E = o + (((L s).drop o).takeWhile isW).length := by rw [hE]; omega
  have hEs : E ≤ s.size := by omega
  have HR := Lib.hid hR
  obtain ⟨r0, r1⟩ := hR.rd
  have HE := Lib.hid hE
  have hoI : (o : Int) ≤ (E : Int) := by omega
  have hEsI : (E : Int) ≤ (s.size : Int) := by omega
  have ho0 : (0 : Int) ≤ (o : Int) := by omega
  have hwE : IntKind.i64.wrap ((E : Int) - (o : Int)) = (E : Int) - (o : Int) := by rw [IntKind.wrap_i64]; omega
  have HEO := Lib.hid hEo
  clear hR hE hEo hrl
  go_enter Tryd.func26, Tryd.ntmps26
  go_wp2_with fail
  refine (run_any s o o X _ hs (by omega) (((HR.out.alloc _).alloc _).rd)).mono ?_
  rintro e w' ⟨rfl, rfl⟩
  rw [← HE.out]
  by_cases h64 : 64 < E - o
  · have d64 : decide ((E : Int) - (o : Int) > 64) = true := decide_eq_true (by omega)
    go_wp2_with fail
    refine (fault_any X 14 o _).mono ?_
    rintro e w2 ⟨he, hb⟩
    have he2 : e = .returned (.tuple #[.agg #[.int .i64 0, .string noS, .int .i64 0, .int .i64 0, .int .i64 0, .int .i64 0], .agg #[.int .i64 14, .int .i64 0, .int .i64 (o : Int)]]) := he
    subst he2
    clear he
    have q1 : w2.heap[w.heap.size]? = some (.cells #[.int .i64 0, .string noS, .int .i64 0, .int .i64 0, .int .i64 0, .int .i64 0] 32) := by
      rw [hb.block _ (by simp; omega)]
      exact (two_heap _ _ rfl).1
    have q2 : w2.heap[w.heap.size + 1]? = some (.cells #[.int .i64 0, .int .i64 0, .int .i64 0] 25) := by
      rw [hb.block _ (by simp)]
      exact (two_heap _ _ rfl).2
    obtain ⟨a0, a1, a2, a3, a4, a5, b0, b1, b2, b3, b4, b5⟩ := row6 q1
    obtain ⟨c0, c1, c2, d0, d1, d2⟩ := row3 q2
    obtain ⟨g1, g2⟩ := nine_set (x0 := .int .i64 0) (x1 := .string noS) (x2 := .int .i64 0) (x3 := .int .i64 0) (x4 := .int .i64 0) (x5 := .int .i64 0) (y0 := .int .i64 14) (y1 := .int .i64 0) (y2 := .int .i64 (o : Int)) q1 q2
    have G1 := Lib.hid g1
    have G2 := Lib.hid g2
    have HB : Hid (Bes X w (nine w2 w.heap.size (w.heap.size + 1) (.int .i64 0) (.string noS) (.int .i64 0) (.int .i64 0) (.int .i64 0) (.int .i64 0) (.int .i64 14) (.int .i64 0) (.int .i64 (o : Int)))) := Lib.hid (nine_bes ((((Bes.refl X w).alloc _).alloc _).trans (Bes.of hb)) (by omega) (by omega))
    clear g1 g2 q1 q2 hb
    have HN : Hid (nextWord ((L s).drop o) = .fault 14 ((L s).drop o)) := Lib.hid (by
      unfold nextWord
      rw [if_pos (by have := HEO.out; omega)])
    go_wp2
    refine bodyPost_ret (results_two_rows rfl _ _ w.heap.size (w.heap.size + 1) 32 25 _ _ (0, 0) (0, 0) _ _ rfl G1.out Tryd.underlying32 rfl Tryd.size32 rfl G2.out Tryd.underlying25 rfl Tryd.size25) rfl ?_
    exact fault_end HN.out (by rw [List.length_drop, L_len]; omega) HB.out
  · have d64 : decide ((E : Int) - (o : Int) > 64) = false := decide_eq_false (by omega)
    have f1 := HR.out.froz
    obtain ⟨z, hz⟩ : ∃ z, z = s.extract o E := ⟨_, rfl⟩
    have HZ := Lib.hid hz
    have hzs : z.size = E - o := by rw [← L_len, hz, cut_drop, List.length_take, List.length_drop, L_len]; omega
    clear hz
    go_upto_region 6 with fail
    rw [← HZ.out]
    have hLz : L z = ((L s).drop o).takeWhile isW := by
      rw [HZ.out, cut_drop, show E - o = (((L s).drop o).takeWhile isW).length by have := HEO.out; omega]
      exact take_while _ _
    have HSL : Hid (s.size - (((L s).drop o).dropWhile isW).length = E) := Lib.hid HE.out.symm
    have HBW : ∀ p q : Obj, Bes X w (((w.setCell ⟨X, 1, none⟩ (.int .i64 (E : Int))).alloc p).alloc q) := fun p q =>
      (((Bes.refl X w).set (.inl rfl) _).alloc p).alloc q
    have hlen : ¬ 64 < (((L s).drop o).takeWhile isW).length := by have := HEO.out; omega
    have HLZ := Lib.hid hLz
    clear hLz
    by_cases hnot : (((L s).drop o).takeWhile isW).map (·.toNat) = [110, 111, 116]
    · have hzn : z = ⟨#[110, 111, 116]⟩ := not_is (by rw [HLZ.out]; exact hnot)
      have HNX : Hid (nextWord ((L s).drop o) = .tok 10 0 [] 0 (((L s).drop o).dropWhile isW)) := Lib.hid (by unfold nextWord; rw [if_neg hlen, if_pos hnot])
      have hq : (z.toList == [110, 111, 116]) = true := by rw [hzn]; decide +kernel
      clear hzn hnot hlen
      go_wp2
      obtain ⟨g1, g2⟩ := two_heap (.cells #[.int .i64 10, .string noS, .int .i64 0, .int .i64 0, .int .i64 (o : Int), .int .i64 (E : Int)] 32) (.cells #[.int .i64 0, .int .i64 0, .int .i64 0] 25) (size_set w ⟨X, 1, none⟩ (.int .i64 (E : Int)))
      refine bodyPost_ret (results_two_rows rfl _ _ w.heap.size (w.heap.size + 1) 32 25 #[.int .i64 10, .string noS, .int .i64 0, .int .i64 0, .int .i64 (o : Int), .int .i64 (E : Int)] #[.int .i64 0, .int .i64 0, .int .i64 0] (0, 0) (0, 0) _ _ rfl g1 Tryd.underlying32 rfl Tryd.size32 rfl g2 Tryd.underlying25 rfl Tryd.size25) rfl ?_
      exact tok_end (kind := 10) (op := 0) (t := noS) HNX.out rfl HSL.out ((HR.out.set.alloc _).alloc _) (HBW _ _)
    · have hq : (z.toList == [110, 111, 116]) = false := by
        rw [beq_eq_false_iff_ne]
        intro h
        apply hnot
        rw [← HLZ.out, L_eq_toList z h]
        rfl
      have hz0 : 0 < z.size := by
        rw [hzs]
        have h5 := HEO.out
        rw [L_drop ho, List.takeWhile_cons_of_pos hc, List.length_cons] at h5
        omega
      have hz0I : (0 : Int) < (z.size : Int) := by omega
      have hhd : hdP isL ((L s).drop o) = isL s[o] := by rw [L_drop ho]; rfl
      have hz1 : z[0] = s[o] := by
        have h5 := HLZ.out
        rw [L_drop ho, List.takeWhile_cons_of_pos hc, ← List.drop_zero (l := L z), L_drop hz0] at h5
        injection h5
      have HZ1 := Lib.hid hz1
      cases hl : isL s[o] with
      | true =>
        have HNX : Hid (nextWord ((L s).drop o) = .tok 1 0 (((L s).drop o).takeWhile isW) 0 (((L s).drop o).dropWhile isW)) := Lib.hid (by unfold nextWord; rw [if_neg hlen, if_neg hnot, if_pos (by rw [hhd]; exact hl)])
        clear hnot hlen hhd hz1 hzs
        go_wp2_with fail
        rw [HZ1.out]
        refine (isL_any _ _).mono ?_
        rintro e w' ⟨rfl, rfl⟩
        rw [hl]
        go_wp2
        obtain ⟨g1, g2⟩ := two_heap (.cells #[.int .i64 1, .string z, .int .i64 0, .int .i64 0, .int .i64 (o : Int), .int .i64 (E : Int)] 32) (.cells #[.int .i64 0, .int .i64 0, .int .i64 0] 25) (size_set w ⟨X, 1, none⟩ (.int .i64 (E : Int)))
        refine bodyPost_ret (results_two_rows rfl _ _ w.heap.size (w.heap.size + 1) 32 25 #[.int .i64 1, .string z, .int .i64 0, .int .i64 0, .int .i64 (o : Int), .int .i64 (E : Int)] #[.int .i64 0, .int .i64 0, .int .i64 0] (0, 0) (0, 0) _ _ rfl g1 Tryd.underlying32 rfl Tryd.size32 rfl g2 Tryd.underlying25 rfl Tryd.size25) rfl ?_
        exact tok_end (kind := 1) (op := 0) (t := z) HNX.out HLZ.out HSL.out ((HR.out.set.alloc _).alloc _) (HBW _ _)
      | false =>
        have HNX : Hid (nextWord ((L s).drop o) = .tok 2 0 (((L s).drop o).takeWhile isW) 0 (((L s).drop o).dropWhile isW)) := Lib.hid (by unfold nextWord; rw [if_neg hlen, if_neg hnot, if_neg (by rw [hhd, hl]; simp)])
        clear hnot hlen hhd hz1 hzs
        go_wp2_with fail
        rw [HZ1.out]
        refine (isL_any _ _).mono ?_
        rintro e w' ⟨rfl, rfl⟩
        rw [hl]
        go_wp2
        obtain ⟨g1, g2⟩ := two_heap (.cells #[.int .i64 2, .string z, .int .i64 0, .int .i64 0, .int .i64 (o : Int), .int .i64 (E : Int)] 32) (.cells #[.int .i64 0, .int .i64 0, .int .i64 0] 25) (size_set w ⟨X, 1, none⟩ (.int .i64 (E : Int)))
        refine bodyPost_ret (results_two_rows rfl _ _ w.heap.size (w.heap.size + 1) 32 25 #[.int .i64 2, .string z, .int .i64 0, .int .i64 0, .int .i64 (o : Int), .int .i64 (E : Int)] #[.int .i64 0, .int .i64 0, .int .i64 0] (0, 0) (0, 0) _ _ rfl g1 Tryd.underlying32 rfl Tryd.size32 rfl g2 Tryd.underlying25 rfl Tryd.size25) rfl ?_
        exact tok_end (kind := 2) (op := 0) (t := z) HNX.out HLZ.out HSL.out ((HR.out.set.alloc _).alloc _) (HBW _ _)
end Go.Proofs.YthidnjnaifcfoaaDoor
