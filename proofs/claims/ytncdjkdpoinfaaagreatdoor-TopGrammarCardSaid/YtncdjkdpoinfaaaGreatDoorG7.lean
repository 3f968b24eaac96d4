/-
  Texts of this seat, one behind the other: W11, W12, W13. Conditions: those that each of them states.
-/
import Derived.Test.YtncdjkdpoinfaaaGreatDoorG6
import Derived.WalkMore
/-
  The walk of lex's reader.word. Conditions: the text is at most 65536 bytes long; the reader lies in a block of its own, at a word's first byte.
-/
namespace Go.Proofs.YtncdjkdpoinfaaaGreatDoor
open Go.RowKit Go.Shelf Pl

theorem len3 {α : Type} : ∀ {l : List α}, l.length = 3 → ∃ a b c, l = [a, b, c]
  | [a, b, c], _ => ⟨a, b, c, rfl⟩
theorem not_is {z : ByteArray} (h : (L z).map (·.toNat) = [110, 111, 116]) : z = ⟨#[110, 111, 116]⟩ := by
  have h1 : L z = [110, 111, 116] := by
    have hl : (L z).length = 3 := by have := congrArg List.length h; simpa using this
    obtain ⟨a, b, c, h2⟩ := len3 hl
    rw [h2] at h ⊢
    simp only [List.map_cons, List.map_nil, List.cons.injEq, and_true] at h
    obtain ⟨g1, g2, g3⟩ := h
    have e1 : a = 110 := UInt8.toNat_inj.1 g1
    have e2 : b = 111 := UInt8.toNat_inj.1 g2
    have e3 : c = 116 := UInt8.toNat_inj.1 g3
    rw [e1, e2, e3]
  cases z with
  | mk d =>
    have h3 : d.toList = [110, 111, 116] := h1
    have h4 : d = #[110, 111, 116] := by rw [← Array.toList_inj, h3]
    rw [h4]
theorem L_eq_toList (z : ByteArray) (h : z.toList = [110, 111, 116]) : L z = [110, 111, 116] := by
  rw [ByteArray.toList_eq] at h
  exact h

set_option maxRecDepth 100000 in
set_option maxHeartbeats 3200000 in
theorem word_any (s : ByteArray) (o X : Nat) (w : World) (hs : s.size ≤ 65536) (ho : o < s.size) (hc : isW s[o] = true) (hR : RdB w X s o) :
    Calls Tryz.prog 64 #[.pointer (some ⟨X, 0, none⟩)] w fun e w' => TokIs s X o w (nextWord ((L s).drop o)) e w' := by
  have hX := hR.lt
  obtain ⟨E, hE⟩ : ∃ E, E = s.size - (((L s).drop o).dropWhile isW).length := ⟨_, rfl⟩
  have hrl := run_len ((L s).drop o)
  rw [List.length_drop, L_len] at hrl
  have hEo : E = o + (((L s).drop o).takeWhile isW).length := by rw [hE]; omega
  have hEs : E ≤ s.size := by omega
  have HR := Lib.hid hR
  obtain ⟨r0, r1⟩ := hR.rd
  have HE := Lib.hid hE
  have hoI : (o : Int) ≤ (E : Int) := by omega
  have hEsI : (E : Int) ≤ (s.size : Int) := by omega
  have ho0 : (0 : Int) ≤ (o : Int) := by omega
  have hwE : IntKind.i64.wrap ((E : Int) - (o : Int)) = (E : Int) - (o : Int) := by rw [IntKind.wrap_i64]; omega
  have HEO := Lib.hid hEo
  clear hR hE hEo hrl
  go_enter Tryz.func64, Tryz.ntmps64
  go_wp2_with fail
  refine (run_any s o o X _ hs (by omega) (((HR.out.alloc _).alloc _).rd)).mono ?_
  rintro e w' ⟨rfl, rfl⟩
  rw [← HE.out]
  by_cases h64 : 64 < E - o
  · have d64 : decide ((E : Int) - (o : Int) > 64) = true := decide_eq_true (by omega)
    go_wp2_with fail
    refine (fault_any X 14 o _).mono ?_
    rintro e w2 ⟨he, hb⟩
    have he2 : e = .returned (.tuple #[.agg #[.int .i64 0, .string noS, .int .i64 0, .int .i64 0, .int .i64 0, .int .i64 0], .agg #[.int .i64 14, .int .i64 0, .int .i64 (o : Int)]]) := he
    subst he2
    clear he
    have q1 : w2.heap[w.heap.size]? = some (.cells #[.int .i64 0, .string noS, .int .i64 0, .int .i64 0, .int .i64 0, .int .i64 0] 62) := by
      rw [hb.block _ (by simp; omega)]
      exact (two_heap _ _ rfl).1
    have q2 : w2.heap[w.heap.size + 1]? = some (.cells #[.int .i64 0, .int .i64 0, .int .i64 0] 27) := by
      rw [hb.block _ (by simp)]
      exact (two_heap _ _ rfl).2
    obtain ⟨a0, a1, a2, a3, a4, a5, b0, b1, b2, b3, b4, b5⟩ := row6 q1
    obtain ⟨c0, c1, c2, d0, d1, d2⟩ := row3 q2
    obtain ⟨g1, g2⟩ := nine_set (x0 := .int .i64 0) (x1 := .string noS) (x2 := .int .i64 0) (x3 := .int .i64 0) (x4 := .int .i64 0) (x5 := .int .i64 0) (y0 := .int .i64 14) (y1 := .int .i64 0) (y2 := .int .i64 (o : Int)) q1 q2
    have G1 := Lib.hid g1
    have G2 := Lib.hid g2
    have HB : Hid (Bes X w (nine w2 w.heap.size (w.heap.size + 1) (.int .i64 0) (.string noS) (.int .i64 0) (.int .i64 0) (.int .i64 0) (.int .i64 0) (.int .i64 14) (.int .i64 0) (.int .i64 (o : Int)))) := Lib.hid (nine_bes ((((Bes.refl X w).alloc _).alloc _).trans (Bes.of hb)) (by omega) (by omega))
    clear g1 g2 q1 q2 hb
    have HN : Hid (nextWord ((L s).drop o) = .fault 14 ((L s).drop o)) := Lib.hid (by
      unfold nextWord
      rw [if_pos (by have := HEO.out; omega)])
    go_wp2
    refine bodyPost_ret (results_two_rows rfl _ _ w.heap.size (w.heap.size + 1) 62 27 _ _ (0, 0) (0, 0) _ _ rfl G1.out Tryz.underlying62 rfl Tryz.size32 rfl G2.out Tryz.underlying27 rfl Tryz.size25) rfl ?_
    exact fault_end HN.out (by rw [List.length_drop, L_len]; omega) HB.out
  · have d64 : decide ((E : Int) - (o : Int) > 64) = false := decide_eq_false (by omega)
    have f1 := HR.out.froz
    obtain ⟨z, hz⟩ : ∃ z, z = s.extract o E := ⟨_, rfl⟩
    have HZ := Lib.hid hz
    have hzs : z.size = E - o := by rw [← L_len, hz, cut_drop, List.length_take, List.length_drop, L_len]; omega
    clear hz
    go_upto_region 6 with fail
    rw [← HZ.out]
    have hLz : L z = ((L s).drop o).takeWhile isW := by
      rw [HZ.out, cut_drop, show E - o = (((L s).drop o).takeWhile isW).length by have := HEO.out; omega]
      exact take_while _ _
    have HSL : Hid (s.size - (((L s).drop o).dropWhile isW).length = E) := Lib.hid HE.out.symm
    have HBW : ∀ p q : Obj, Bes X w (((w.setCell ⟨X, 1, none⟩ (.int .i64 (E : Int))).alloc p).alloc q) := fun p q =>
      (((Bes.refl X w).set (.inl rfl) _).alloc p).alloc q
    have hlen : ¬ 64 < (((L s).drop o).takeWhile isW).length := by have := HEO.out; omega
    have HLZ := Lib.hid hLz
    clear hLz
    by_cases hnot : (((L s).drop o).takeWhile isW).map (·.toNat) = [110, 111, 116]
    · have hzn : z = ⟨#[110, 111, 116]⟩ := not_is (by rw [HLZ.out]; exact hnot)
      have HNX : Hid (nextWord ((L s).drop o) = .tok 10 0 [] 0 (((L s).drop o).dropWhile isW)) := Lib.hid (by unfold nextWord; rw [if_neg hlen, if_pos hnot])
      have hq : (z.toList == [110, 111, 116]) = true := by rw [hzn]; decide +kernel
      clear hzn hnot hlen
      go_wp2
      obtain ⟨g1, g2⟩ := two_heap (.cells #[.int .i64 10, .string noS, .int .i64 0, .int .i64 0, .int .i64 (o : Int), .int .i64 (E : Int)] 62) (.cells #[.int .i64 0, .int .i64 0, .int .i64 0] 27) (size_set w ⟨X, 1, none⟩ (.int .i64 (E : Int)))
      refine bodyPost_ret (results_two_rows rfl _ _ w.heap.size (w.heap.size + 1) 62 27 #[.int .i64 10, .string noS, .int .i64 0, .int .i64 0, .int .i64 (o : Int), .int .i64 (E : Int)] #[.int .i64 0, .int .i64 0, .int .i64 0] (0, 0) (0, 0) _ _ rfl g1 Tryz.underlying62 rfl Tryz.size32 rfl g2 Tryz.underlying27 rfl Tryz.size25) rfl ?_
      exact tok_end (kind := 10) (op := 0) (t := noS) HNX.out rfl HSL.out ((HR.out.set.alloc _).alloc _) (HBW _ _)
    · have hq : (z.toList == [110, 111, 116]) = false := by
        rw [beq_eq_false_iff_ne]
        intro h
        apply hnot
        rw [← HLZ.out, L_eq_toList z h]
        rfl
      have hz0 : 0 < z.size := by
        rw [hzs]
        have h5 := HEO.out
        rw [L_drop ho, List.takeWhile_cons_of_pos hc, List.length_cons] at h5
        omega
      have hz0I : (0 : Int) < (z.size : Int) := by omega
      have hhd : hdP isL ((L s).drop o) = isL s[o] := by rw [L_drop ho]; rfl
      have hz1 : z[0] = s[o] := by
        have h5 := HLZ.out
        rw [L_drop ho, List.takeWhile_cons_of_pos hc, ← List.drop_zero (l := L z), L_drop hz0] at h5
        injection h5
      have HZ1 := Lib.hid hz1
      cases hl : isL s[o] with
      | true =>
        have HNX : Hid (nextWord ((L s).drop o) = .tok 1 0 (((L s).drop o).takeWhile isW) 0 (((L s).drop o).dropWhile isW)) := Lib.hid (by unfold nextWord; rw [if_neg hlen, if_neg hnot, if_pos (by rw [hhd]; exact hl)])
        clear hnot hlen hhd hz1 hzs
        go_wp2_with fail
        rw [HZ1.out]
        refine (isL_any _ _).mono ?_
        rintro e w' ⟨rfl, rfl⟩
        rw [hl]
        go_wp2
        obtain ⟨g1, g2⟩ := two_heap (.cells #[.int .i64 1, .string z, .int .i64 0, .int .i64 0, .int .i64 (o : Int), .int .i64 (E : Int)] 62) (.cells #[.int .i64 0, .int .i64 0, .int .i64 0] 27) (size_set w ⟨X, 1, none⟩ (.int .i64 (E : Int)))
        refine bodyPost_ret (results_two_rows rfl _ _ w.heap.size (w.heap.size + 1) 62 27 #[.int .i64 1, .string z, .int .i64 0, .int .i64 0, .int .i64 (o : Int), .int .i64 (E : Int)] #[.int .i64 0, .int .i64 0, .int .i64 0] (0, 0) (0, 0) _ _ rfl g1 Tryz.underlying62 rfl Tryz.size32 rfl g2 Tryz.underlying27 rfl Tryz.size25) rfl ?_
        exact tok_end (kind := 1) (op := 0) (t := z) HNX.out HLZ.out HSL.out ((HR.out.set.alloc _).alloc _) (HBW _ _)
      | false =>
        have HNX : Hid (nextWord ((L s).drop o) = .tok 2 0 (((L s).drop o).takeWhile isW) 0 (((L s).drop o).dropWhile isW)) := Lib.hid (by unfold nextWord; rw [if_neg hlen, if_neg hnot, if_neg (by rw [hhd, hl]; simp)])
        clear hnot hlen hhd hz1 hzs
        go_wp2_with fail
        rw [HZ1.out]
        refine (isL_any _ _).mono ?_
        rintro e w' ⟨rfl, rfl⟩
        rw [hl]
        go_wp2
        obtain ⟨g1, g2⟩ := two_heap (.cells #[.int .i64 2, .string z, .int .i64 0, .int .i64 0, .int .i64 (o : Int), .int .i64 (E : Int)] 62) (.cells #[.int .i64 0, .int .i64 0, .int .i64 0] 27) (size_set w ⟨X, 1, none⟩ (.int .i64 (E : Int)))
        refine bodyPost_ret (results_two_rows rfl _ _ w.heap.size (w.heap.size + 1) 62 27 #[.int .i64 2, .string z, .int .i64 0, .int .i64 0, .int .i64 (o : Int), .int .i64 (E : Int)] #[.int .i64 0, .int .i64 0, .int .i64 0] (0, 0) (0, 0) _ _ rfl g1 Tryz.underlying62 rfl Tryz.size32 rfl g2 Tryz.underlying27 rfl Tryz.size25) rfl ?_
        exact tok_end (kind := 2) (op := 0) (t := z) HNX.out HLZ.out HSL.out ((HR.out.set.alloc _).alloc _) (HBW _ _)
end Go.Proofs.YtncdjkdpoinfaaaGreatDoor
/-
  The walk of lex's reader.gap. Conditions: the text is at most 65536 bytes long; the reader lies in a block of its own.
-/
namespace Go.Proofs.YtncdjkdpoinfaaaGreatDoor
open Go.RowKit Go.Shelf Pl

theorem isB_same {c : UInt8} {b : Bool} (w : World) (h : isB c = b) : Calls Tryz.prog 68 #[.int .u8 (c.toNat : Int)] w fun e w' => e = .returned (.bool b) ∧ w' = w := by
  rw [← h]
  exact (isB_any c w).mono fun _ _ h => ⟨h.1, h.2.symm⟩
theorem has_any (s p : ByteArray) (q : Nat) (b : Bool) (w : World) (h : Lib.hasPrefix ((L s).drop q) (L p) = b) : Calls Tryz.prog 66 #[.string (s.extract q s.size), .string p] w fun e w' => e = .returned (.bool b) ∧ w' = w := by
  have h1 := Any.strings_HasPrefix Tryz.lays99 (s.extract q s.size) p w
  have h2 : Lib.hasPrefix (s.extract q s.size).data.toList p.data.toList = b := by
    rw [← h]
    show Lib.hasPrefix (L (s.extract q s.size)) (L p) = _
    rw [cut_drop, List.take_of_length_le (by rw [List.length_drop, L_len]; omega)]
  rw [h2] at h1
  exact h1
theorem has_two {a b c d : UInt8} {r : List UInt8} : Lib.hasPrefix (a :: b :: r) [c, d] = (decide (a.toNat = c.toNat) && decide (b.toNat = d.toNat)) := by
  rw [Bool.eq_iff_iff]
  simp [Lib.hasPrefix, List.isPrefixOf, UInt8.toNat_inj]
  exact ⟨fun h => ⟨h.1.symm, h.2.symm⟩, fun h => ⟨h.1.symm, h.2.symm⟩⟩
theorem has_one {a c d : UInt8} : Lib.hasPrefix [a] [c, d] = false := by
  simp [Lib.hasPrefix, List.isPrefixOf]
/-- Two bytes stand there, or they do not. -/
theorem has_at {s : ByteArray} {q c d : Nat} (h : q < s.size) (hc : c < 256) (hd : d < 256) : Lib.hasPrefix ((L s).drop q) [UInt8.ofNat c, UInt8.ofNat d] = decide (s[q].toNat = c ∧ hdP (fun x => decide (x.toNat = d)) ((L s).drop (q + 1)) = true) := by
  rw [L_drop h]
  by_cases h1 : q + 1 < s.size
  · rw [L_drop h1, has_two, ofNat_back hc, ofNat_back hd]
    simp [hdP]
  · rw [show (L s).drop (q + 1) = [] from List.drop_eq_nil_of_le (by rw [L_len]; omega), has_one]
    simp [hdP]
theorem hd_two {s : ByteArray} {q d : Nat} (h : hdP (fun x => decide (x.toNat = d)) ((L s).drop (q + 1)) = true) : ∃ h2 : q + 1 < s.size, s[q + 1].toNat = d := by
  rcases Nat.lt_or_ge (q + 1) s.size with h5 | h5
  · rw [L_drop h5] at h
    exact ⟨h5, of_decide_eq_true h⟩
  · rw [hdP_end (by rw [L_len]; exact h5)] at h; cases h

def GapIs (s : ByteArray) (X : Nat) (T : List UInt8 ⊕ List UInt8) (e : Ending) (w' : World) : Prop :=
  match T with
  | .inl r => e = .returned (.tuple #[.int .i64 ((s.size - r.length : Nat) : Int), .bool true]) ∧ RdB w' X s (s.size - r.length)
  | .inr st => e = .returned (.tuple #[.int .i64 ((s.size - st.length : Nat) : Int), .bool false])
theorem RdB.set' {w : World} {X a q : Nat} {s : ByteArray} {v : Int} (h : RdB w X s a) (hv : v = (q : Int)) : RdB (w.setCell ⟨X, 1, none⟩ (.int .i64 v)) X s q := by
  rw [hv]; exact h.set
theorem at_less {w w' : World} {X a b : Nat} {s : ByteArray} (h : atOf w X = a) (h' : RdB w' X s b) (hab : a < b) (hb : b ≤ s.size) : s.size - atOf w' X < s.size - atOf w X := by
  rw [h, h'.atOf]; omega
theorem at_same {w w' : World} {X a b : Nat} {s : ByteArray} (h : RdB w X s a) (h' : RdB w' X s b) (hab : a = b) : w'.cell? ⟨X, 1, none⟩ = w.cell? ⟨X, 1, none⟩ := by
  rw [h.rd.2, h'.rd.2, hab]
theorem Bes.drews {X : Nat} {w w1 w2 : World} (h : Bes X w w1) (h1 : w2.os = w1.os) (h2 : w2.tape = w1.tape) (h3 : w2.output = w1.output) (h4 : w2.heap = w1.heap) : Bes X w w2 :=
  ⟨h1.trans h.os, h2.trans h.tape, h3.trans h.output, by rw [h4]; exact h.size, by rw [h4]; exact h.block⟩
theorem Bes.set1 {X n : Nat} {w w1 : World} {v : Value} (h : Bes X w w1) : Bes X w ((w1.drewN n).setCell ⟨X, 1, none⟩ v) := (h.drewN n).set (.inl rfl) v

set_option maxRecDepth 100000 in
set_option maxHeartbeats 3200000 in
theorem gap_any (s : ByteArray) (p X : Nat) (w : World) (hp : p ≤ s.size) (hs : s.size ≤ 65536) (hR : RdB w X s p) : Calls Tryz.prog 58 #[.pointer (some ⟨X, 0, none⟩)] w fun e w' => GapIs s X (gap .out ((L s).drop p)) e w' ∧ Bes X w w' := by
  obtain ⟨T, hT⟩ : ∃ T, T = gap .out ((L s).drop p) := ⟨_, rfl⟩
  rw [← hT]
  have HT := Lib.hid hT.symm
  have HR := Lib.hid hR
  clear hT hR
  go_enter Tryz.func58, Tryz.ntmps58
  go_wp2
  refine wp_scope_straight ?_
  apply wp_seq
  apply wp_label
  simp only [Exit.then]
  go_wp2
  go_loopw [] (fun wr => ∃ q : Nat, q ≤ s.size ∧ Hid (RdB wr X s q) ∧ Hid (Bes X w wr) ∧ Hid (gap .out ((L s).drop q) = T)) (fun wr => s.size - atOf wr X)
  case atStart => exact ⟨p, hp, HR, Lib.hid (Bes.refl _ _), HT⟩
  case round =>
    obtain ⟨q, hq, HRR, HBB, HQ⟩ := hrel
    obtain ⟨r0, r1⟩ := HRR.out.rd
    have f1 := HRR.out.froz
    have HA := Lib.hid HRR.out.atOf
    by_cases h1 : q < s.size
    · have hqI : (q : Int) < (s.size : Int) := by omega
      have hqL : (q : Int) ≤ (s.size : Int) := by omega
      have hqd : decide ((q : Int) < (s.size : Int)) = true := decide_eq_true hqI
      have hq0 : (0 : Int) ≤ (q : Int) := by omega
      have HD := Lib.hid (L_drop h1)
      have hw1 : IntKind.i64.wrap ((q : Int) + 1) = (q : Int) + 1 := by rw [IntKind.wrap_i64]; omega
      have hw2 : IntKind.i64.wrap ((q : Int) + 2) = (q : Int) + 2 := by rw [IntKind.wrap_i64]; omega
      cases hb : isB s[q] with
      | true =>
        have HN : Hid (gap .out ((L s).drop (q + 1)) = T) := by rw [← gap_blank (a := s[q]) hb, ← HD.out]; exact HQ.out
        clear HD
        go_wp2_with fail
        go_quiet (fail)
        go_wp2_with fail
        go_quiet (first | (go_at_call 68; exact (isB_same _ hb).mono fun _ _ h => ⟨h.1, _, h.2⟩))
        go_wp2
        have HZ := RdB.set' (v := (q : Int) + 1) (q := q + 1) HRR.out (by omega)
        go_roundw
        case rel => exact ⟨q + 1, by omega, Lib.hid (RdB.set' HRR.out (by omega)), Lib.hid HBB.out.set1, HN⟩
        case measure => exact at_less HA.out (RdB.set' HRR.out (q := q + 1) (by omega)) (by omega) (by omega)
      | false =>
        by_cases b37 : s[q].toNat = 37
        · have e37 : ((s[q].toNat : Int) == 37) = true := by simp; omega
          have HN : Hid (gap .line ((L s).drop q) = T) := by
            have h5 := HQ.out
            rw [HD.out, gap_mark b37] at h5
            rw [HD.out, line_step (by omega)]
            exact h5
          have HB37 := Lib.hid b37
          clear HD HQ b37
          go_wp2_with fail
          go_quiet (fail)
          go_wp2_with fail
          go_quiet (first | (go_at_call 68; exact (isB_same _ hb).mono fun _ _ h => ⟨h.1, _, h.2⟩))
          go_wp2_with fail
          go_quiet (fail)
          clear e37
          go_wp2
          go_loopw [] (fun wr2 => ∃ q2 : Nat, q ≤ q2 ∧ q2 ≤ s.size ∧ Hid (RdB wr2 X s q2) ∧ Hid (Bes X w wr2) ∧ Hid (gap .line ((L s).drop q2) = T)) (fun wr2 => s.size - atOf wr2 X)
          case atStart => exact ⟨q, Nat.le_refl _, hq, HRR, Lib.hid (((HBB.out.drewN _).drewN _).drewN _), HN⟩
          case round =>
            obtain ⟨q2, hqq, hq2, HRR2, HBB2, HQ2⟩ := hrel
            obtain ⟨t0, t1⟩ := HRR2.out.rd
            have g1 := HRR2.out.froz
            have HA2 := Lib.hid HRR2.out.atOf
            clear r0 r1 f1
            by_cases h2 : q2 < s.size
            · have h2I : (q2 : Int) < (s.size : Int) := by omega
              have h20 : (0 : Int) ≤ (q2 : Int) := by omega
              have hw3 : IntKind.i64.wrap ((q2 : Int) + 1) = (q2 : Int) + 1 := by rw [IntKind.wrap_i64]; omega
              have h2d : decide ((q2 : Int) < (s.size : Int)) = true := decide_eq_true h2I
              have HD2 := Lib.hid (L_drop h2)
              by_cases b10 : s[q2].toNat = 10
              · have e10 : ((s[q2].toNat : Int) != 10) = false := by simp; omega
                have hlt : q < q2 := by
                  have : q2 ≠ q := fun e => by
                    subst e
                    have := HB37.out
                    omega
                  omega
                have HN2 : Hid (gap .out ((L s).drop q2) = T) := by rw [HD2.out, ← line_stop b10, ← HD2.out]; exact HQ2.out
                clear HD2
                go_wp2_with fail
                go_quiet (fail)
                go_wp2
                go_roundw
                case rel => exact ⟨q2, hq2, HRR2, Lib.hid (HBB2.out.drewN _), HN2⟩
                case measure => exact at_less HA.out HRR2.out (by omega) (by omega)
              · have e10 : ((s[q2].toNat : Int) != 10) = true := by simp; omega
                have HN2 : Hid (gap .line ((L s).drop (q2 + 1)) = T) := by rw [← line_step b10, ← HD2.out]; exact HQ2.out
                clear HD2
                go_wp2_with fail
                go_quiet (fail)
                go_wp2
                go_roundw
                case rel => exact ⟨q2 + 1, by omega, by omega, Lib.hid (RdB.set' HRR2.out (by omega)), Lib.hid HBB2.out.set1, HN2⟩
                case measure => exact at_less HA2.out (RdB.set' HRR2.out (q := q2 + 1) (by omega)) (by omega) (by omega)
            · have e : q2 = s.size := by omega
              have h2d : decide ((q2 : Int) < (s.size : Int)) = false := decide_eq_false (by omega)
              have HN2 : Hid (gap .out ((L s).drop q2) = T) := by
                have h5 := HQ2.out
                rw [e, L_end] at h5 ⊢
                rw [← line_end]; exact h5
              clear e
              go_wp2_with fail
              go_quiet (fail)
              go_wp2
              go_roundw
              case rel => exact ⟨q2, hq2, HRR2, Lib.hid (HBB2.out.drewN _), HN2⟩
              case measure => exact at_less HA.out HRR2.out (by omega) (by omega)
        · have e37 : ((s[q].toNat : Int) == 37) = false := by simp; omega
          by_cases b47 : s[q].toNat = 47 ∧ hdP (fun x => decide (x.toNat = 42)) ((L s).drop (q + 1)) = true
          · have HP : Hid (Lib.hasPrefix ((L s).drop q) (L ⟨#[47, 42]⟩) = true) := Lib.hid (by
              have h5 := has_at (c := 47) (d := 42) h1 (by omega) (by omega)
              rw [decide_eq_true b47] at h5
              exact h5)
            obtain ⟨h3, b42⟩ := hd_two b47.2
            have HN : Hid (gap (.block 1 ((L s).drop q)) ((L s).drop (q + 2)) = T) := by
              have h5 := HQ.out
              rw [HD.out, L_drop h3, gap_open b47.1 b42] at h5
              rw [HD.out, L_drop h3]; exact h5
            have HL0 : Hid (((L s).drop q).length = s.size - q) := Lib.hid (by rw [List.length_drop, L_len])
            have h32 : q + 2 ≤ s.size := h3
            clear HD HQ b47 b42
            go_wp2_with fail
            go_quiet (fail)
            go_wp2_with fail
            go_quiet (first | (go_at_call 68; exact (isB_same _ hb).mono fun _ _ h => ⟨h.1, _, h.2⟩))
            go_wp2_with fail
            go_quiet (fail)
            go_wp2_with fail
            go_quiet (first | (go_at_call 66; exact (has_any _ _ _ true _ HP.out).mono fun _ _ h => ⟨h.1, _, h.2⟩))
            clear e37
            go_wp2
            go_loopw [5] (fun d wr2 => ∃ q2 n : Nat, d = .int .i64 (n : Int) ∧ 0 < n ∧ q < q2 ∧ q2 ≤ s.size ∧ n ≤ q2 ∧ Hid (RdB wr2 X s q2) ∧ Hid (Bes X w wr2) ∧ Hid (gap (.block n ((L s).drop q)) ((L s).drop q2) = T)) (fun _ wr2 => s.size - atOf wr2 X)
            case atStart => exact ⟨q + 2, 1, rfl, by omega, by omega, h32, by omega, Lib.hid (RdB.set' HRR.out (by omega)), Lib.hid (HBB.out.set1), HN⟩
            case round =>
              obtain ⟨q2, n, rfl, hn0, hqq, hq2, hn2, HRR2, HBB2, HQ2⟩ := hrel
              obtain ⟨t0, t1⟩ := HRR2.out.rd
              have g1 := HRR2.out.froz
              have HA2 := Lib.hid HRR2.out.atOf
              clear r0 r1 f1
              by_cases h2 : q2 < s.size
              · have h2I : (q2 : Int) < (s.size : Int) := by omega
                have h2L : (q2 : Int) ≤ (s.size : Int) := by omega
                have h20 : (0 : Int) ≤ (q2 : Int) := by omega
                have hw3 : IntKind.i64.wrap ((q2 : Int) + 1) = (q2 : Int) + 1 := by rw [IntKind.wrap_i64]; omega
                have hw4 : IntKind.i64.wrap ((q2 : Int) + 2) = (q2 : Int) + 2 := by rw [IntKind.wrap_i64]; omega
                have hw5 : IntKind.i64.wrap ((n : Int) + 1) = (n : Int) + 1 := by rw [IntKind.wrap_i64]; omega
                have hw6 : IntKind.i64.wrap ((n : Int) - 1) = (n : Int) - 1 := by rw [IntKind.wrap_i64]; omega
                have h2d : decide ((q2 : Int) < (s.size : Int)) = true := decide_eq_true h2I
                by_cases c47 : s[q2].toNat = 47 ∧ hdP (fun x => decide (x.toNat = 42)) ((L s).drop (q2 + 1)) = true
                · have HP2 : Hid (Lib.hasPrefix ((L s).drop q2) (L ⟨#[47, 42]⟩) = true) := Lib.hid (by
                    have h5 := has_at (c := 47) (d := 42) h2 (by omega) (by omega)
                    rw [decide_eq_true c47] at h5
                    exact h5)
                  obtain ⟨k3, c42⟩ := hd_two c47.2
                  have k32 : q2 + 2 ≤ s.size := k3
                  have HN3 : Hid (gap (.block (n + 1) ((L s).drop q)) ((L s).drop (q2 + 2)) = T) := by
                    have h6 := HQ2.out
                    rw [L_drop h2, L_drop k3, block_up c47.1 c42] at h6
                    exact h6
                  clear c47 c42
                  go_wp2_with fail
                  go_quiet (fail)
                  go_wp2_with fail
                  go_quiet (first | (go_at_call 66; exact (has_any _ _ _ true _ HP2.out).mono fun _ _ h => ⟨h.1, _, h.2⟩))
                  go_wp2
                  go_roundw
                  case rel => exact ⟨q2 + 2, n + 1, by go_num, by omega, by omega, by omega, by omega, Lib.hid (RdB.set' HRR2.out (by omega)), Lib.hid (HBB2.out.set1), HN3⟩
                  case measure => exact at_less HA2.out (RdB.set' HRR2.out (q := q2 + 2) (by omega)) (by omega) (by omega)
                · have HP2 : Hid (Lib.hasPrefix ((L s).drop q2) (L ⟨#[47, 42]⟩) = false) := Lib.hid (by
                    have h5 := has_at (c := 47) (d := 42) h2 (by omega) (by omega)
                    rw [decide_eq_false c47] at h5
                    exact h5)
                  by_cases c42 : s[q2].toNat = 42 ∧ hdP (fun x => decide (x.toNat = 47)) ((L s).drop (q2 + 1)) = true
                  · have HP3 : Hid (Lib.hasPrefix ((L s).drop q2) (L ⟨#[42, 47]⟩) = true) := Lib.hid (by
                      have h5 := has_at (c := 42) (d := 47) h2 (by omega) (by omega)
                      rw [decide_eq_true c42] at h5
                      exact h5)
                    obtain ⟨k3, d47⟩ := hd_two c42.2
                    have k32 : q2 + 2 ≤ s.size := k3
                    by_cases n1 : n = 1
                    · have hz : ((n : Int) - 1 == 0) = true := by simp; omega
                      have HN3 : Hid (gap .out ((L s).drop (q2 + 2)) = T) := by
                        have h6 := HQ2.out
                        rw [L_drop h2, L_drop k3, block_down c42.1 d47, if_pos n1] at h6
                        exact h6
                      clear c47 c42 n1
                      go_wp2_with fail
                      go_quiet (fail)
                      go_wp2_with fail
                      go_quiet (first | (go_at_call 66; exact (has_any _ _ _ false _ HP2.out).mono fun _ _ h => ⟨h.1, _, h.2⟩))
                      go_wp2_with fail
                      go_quiet (first | (go_at_call 66; exact (has_any _ _ _ true _ HP3.out).mono fun _ _ h => ⟨h.1, _, h.2⟩))
                      go_wp2
                      go_roundw
                      case rel => exact ⟨q2 + 2, by omega, Lib.hid (RdB.set' HRR2.out (by omega)), Lib.hid (HBB2.out.set1), HN3⟩
                      case measure => exact at_less HA.out (RdB.set' HRR2.out (q := q2 + 2) (by omega)) (by omega) (by omega)
                    · have hz : ((n : Int) - 1 == 0) = false := by simp; omega
                      have HN3 : Hid (gap (.block (n - 1) ((L s).drop q)) ((L s).drop (q2 + 2)) = T) := by
                        have h6 := HQ2.out
                        rw [L_drop h2, L_drop k3, block_down c42.1 d47, if_neg n1] at h6
                        exact h6
                      have hn1 : (n : Int) - 1 = ((n - 1 : Nat) : Int) := by omega
                      have HN1 := Lib.hid hn1
                      clear c47 c42 hn1
                      go_wp2_with fail
                      go_quiet (fail)
                      go_wp2_with fail
                      go_quiet (first | (go_at_call 66; exact (has_any _ _ _ false _ HP2.out).mono fun _ _ h => ⟨h.1, _, h.2⟩))
                      go_wp2_with fail
                      go_quiet (first | (go_at_call 66; exact (has_any _ _ _ true _ HP3.out).mono fun _ _ h => ⟨h.1, _, h.2⟩))
                      go_wp2
                      go_roundw
                      case rel => exact ⟨q2 + 2, n - 1, by rw [HN1.out], by omega, by omega, by omega, by omega, Lib.hid (RdB.set' HRR2.out (by omega)), Lib.hid (HBB2.out.set1), HN3⟩
                      case measure => exact at_less HA2.out (RdB.set' HRR2.out (q := q2 + 2) (by omega)) (by omega) (by omega)
                  · have HP3 : Hid (Lib.hasPrefix ((L s).drop q2) (L ⟨#[42, 47]⟩) = false) := Lib.hid (by
                      have h5 := has_at (c := 42) (d := 47) h2 (by omega) (by omega)
                      rw [decide_eq_false c42] at h5
                      exact h5)
                    have HN3 : Hid (gap (.block n ((L s).drop q)) ((L s).drop (q2 + 1)) = T) := by
                      have h6 := HQ2.out
                      by_cases k3 : q2 + 1 < s.size
                      · rw [L_drop h2, L_drop k3, block_step (fun hh => c47 ⟨hh.1, by rw [L_drop k3]; exact decide_eq_true hh.2⟩) (fun hh => c42 ⟨hh.1, by rw [L_drop k3]; exact decide_eq_true hh.2⟩)] at h6
                        rw [L_drop k3]; exact h6
                      · rw [block_short _ _ _ (by rw [List.length_drop, L_len]; omega)] at h6
                        rw [block_short _ _ _ (by rw [List.length_drop, L_len]; omega)]
                        exact h6
                    clear c47 c42
                    go_wp2_with fail
                    go_quiet (fail)
                    go_wp2_with fail
                    go_quiet (first | (go_at_call 66; exact (has_any _ _ _ false _ HP2.out).mono fun _ _ h => ⟨h.1, _, h.2⟩))
                    go_wp2_with fail
                    go_quiet (first | (go_at_call 66; exact (has_any _ _ _ false _ HP3.out).mono fun _ _ h => ⟨h.1, _, h.2⟩))
                    go_wp2
                    go_roundw
                    case rel => exact ⟨q2 + 1, n, rfl, hn0, by omega, by omega, by omega, Lib.hid (RdB.set' HRR2.out (by omega)), Lib.hid (HBB2.out.set1), HN3⟩
                    case measure => exact at_less HA2.out (RdB.set' HRR2.out (q := q2 + 1) (by omega)) (by omega) (by omega)
              · have h2d : decide ((q2 : Int) < (s.size : Int)) = false := decide_eq_false (by omega)
                have hfin : Hid (∀ w' : World, GapIs s X T (.returned (.tuple #[.int .i64 (q : Int), .bool false])) w') := Lib.hid (fun w' => by
                  have h6 := HQ2.out
                  rw [block_short _ _ _ (by rw [List.length_drop, L_len]; omega)] at h6
                  unfold GapIs
                  rw [← h6]
                  simp only
                  rw [HL0.out, show s.size - (s.size - q) = q by omega])
                go_wp2_with fail
                go_quiet (fail)
                go_wp2
                try rw [Exit.noGoto_ret]
                go_ret2
                exact ⟨hfin.out _, HBB2.out.drewN _⟩
          · have HP : Hid (Lib.hasPrefix ((L s).drop q) (L ⟨#[47, 42]⟩) = false) := Lib.hid (by
              have h5 := has_at (c := 47) (d := 42) h1 (by omega) (by omega)
              rw [decide_eq_false b47] at h5
              exact h5)
            have HN : Hid (T = .inl ((L s).drop q)) := by
              rw [← HQ.out, HD.out]
              exact Lib.hid (gap_stop hb b37 b47)
            have hfin : Hid (∀ w' : World, RdB w' X s q → GapIs s X T (.returned (.tuple #[.int .i64 (q : Int), .bool true])) w') := Lib.hid (fun w' hr => by
              unfold GapIs
              rw [HN.out]
              simp only [List.length_drop, L_len]
              rw [show s.size - (s.size - q) = q by omega]
              exact ⟨rfl, hr⟩)
            clear HD HQ b47
            go_wp2_with fail
            go_quiet (fail)
            go_wp2_with fail
            go_quiet (first | (go_at_call 68; exact (isB_same _ hb).mono fun _ _ h => ⟨h.1, _, h.2⟩))
            go_wp2_with fail
            go_quiet (fail)
            go_wp2_with fail
            go_quiet (first | (go_at_call 66; exact (has_any _ _ _ false _ HP.out).mono fun _ _ h => ⟨h.1, _, h.2⟩))
            go_wp2
            try rw [Exit.noGoto_ret]
            go_ret2
            exact ⟨hfin.out _ HRR.out, HBB.out.drewN _⟩
    · have hqd : decide ((q : Int) < (s.size : Int)) = false := decide_eq_false (by omega)
      have e : q = s.size := by omega
      have hfin : Hid (∀ w' : World, RdB w' X s q → GapIs s X T (.returned (.tuple #[.int .i64 (q : Int), .bool true])) w') := Lib.hid (fun w' hr => by
        have h5 := HQ.out
        rw [e, L_end, gap_end] at h5
        unfold GapIs
        rw [← h5]
        simp only [List.length_nil, Nat.sub_zero, ← e]
        exact ⟨trivial, hr⟩)
      clear e
      go_wp2_with fail
      go_quiet (fail)
      go_wp2
      try rw [Exit.noGoto_ret]
      go_ret2
      exact ⟨hfin.out _ HRR.out, HBB.out.drewN _⟩
end Go.Proofs.YtncdjkdpoinfaaaGreatDoor
/-
  The walk of lex's reader.integer. Conditions: the text is at most 65536 bytes long; the reader lies in a block of its own, at a number's first byte; strconv.ErrRange holds a value.
-/
namespace Go.Proofs.YtncdjkdpoinfaaaGreatDoor
open Go.RowKit Go.Shelf Pl

/-- strconv.ErrRange holds a value. -/
def ErrR (w : World) : Prop := ∃ tp p, w.cell? ⟨4, 0, none⟩ = some (.iface tp p)
theorem parse_ok (z : ByteArray) (v : Int) (hz : z.size ≤ 65536) (h : Lib.parseIntB 64 (L z) = .ok v) (w : World) :
    Calls Tryz.prog 70 #[.string z, .int .i64 10, .int .i64 64] w fun e w' => e = .returned (.tuple #[.int .i64 v, .nilIface]) ∧ Below w.heap.size w w' :=
  (Any.strconv_ParseInt_10_at64_ok Tryz.laysC174 z (by omega) v h w).mono fun e w' ⟨he, h⟩ => ⟨he, by
    rcases h with rfl | ⟨t, rfl⟩
    · exact Below.refl _ _
    · exact Lib.bytesWorld_below _ _ _⟩
theorem parse_range (z : ByteArray) (hz : z.size ≤ 65536) (h : Lib.parseIntB 64 (L z) = .range) (w : World) (hw : ErrR w) :
    Calls Tryz.prog 70 #[.string z, .int .i64 10, .int .i64 64] w fun e w' => (∃ m N, e = .returned (.tuple #[.int .i64 m, .iface 138 (.pointer (some ⟨N, 0, none⟩))])) ∧ Below w.heap.size w w' := by
  obtain ⟨tp, p, hc⟩ := hw
  exact (Any.strconv_ParseInt_10_at64_range Tryz.laysC174 z (by omega) h (.iface tp p) w hc (Or.inr ⟨tp, p, rfl⟩)).mono fun e w' ⟨N, he, _, _, hb⟩ => ⟨⟨_, N, he⟩, hb⟩

theorem run_all {s : ByteArray} {o E : Nat} (ho : o < s.size) (hE : E = s.size - (((L s).drop (o + 1)).dropWhile isW).length) :
    (((L s).drop (o + 1)).takeWhile isW).all isD = true ↔ ∀ j, o + 1 ≤ j → j < E → isD (pk s j) = true := by
  have hrl := run_len ((L s).drop (o + 1))
  rw [List.length_drop, L_len] at hrl
  rw [← take_while, show (((L s).drop (o + 1)).takeWhile isW).length = E - (o + 1) by omega, List.all_eq_true]
  constructor
  · intro h j h1 h2
    have h3 : j < s.size := by omega
    refine h _ ?_
    rw [List.mem_iff_getElem]
    refine ⟨j - (o + 1), by rw [List.length_take, List.length_drop, L_len]; omega, ?_⟩
    rw [List.getElem_take, List.getElem_drop, pk_in h3, ← L_get h3]
    congr 1; omega
  · intro h x hx
    obtain ⟨i, hi, rfl⟩ := List.mem_iff_getElem.1 hx
    rw [List.length_take, List.length_drop, L_len] at hi
    have h3 : o + 1 + i < s.size := by omega
    have h4 := h (o + 1 + i) (by omega) (by omega)
    rw [pk_in h3, ← L_get h3] at h4
    rw [List.getElem_take, List.getElem_drop]
    exact h4
theorem int_ok {s : ByteArray} {o E : Nat} (ho : o < s.size) (hE : E = s.size - (((L s).drop (o + 1)).dropWhile isW).length) (hst : isD s[o] = true ∨ (s[o].toNat = 45 ∧ hdP isD ((L s).drop (o + 1)) = true))
    (hall : ∀ j, o + 1 ≤ j → j < E → isD (pk s j) = true) :
    IntSp (L (s.extract o E)) ∧ next ((L s).drop o) = match intV (L (s.extract o E)) with | some v => .tok 3 0 [] v (((L s).drop (o + 1)).dropWhile isW) | none => .fault 13 ((L s).drop o) := by
  have hrl := run_len ((L s).drop (o + 1))
  rw [List.length_drop, L_len] at hrl
  have h2 := (run_all ho hE).2 hall
  have h1 : ((L s).drop (o + 1)).dropWhile isW = (L s).drop E := by
    have h3 := while_split isW ((L s).drop (o + 1))
    have h4 : ((L s).drop (o + 1)).drop (((L s).drop (o + 1)).takeWhile isW).length = ((L s).drop (o + 1)).dropWhile isW := by
      conv => lhs; rw [h3]
      rw [← h3]
      conv => lhs; arg 2; rw [h3]
      exact List.drop_left
    rw [← h4, List.drop_drop]
    congr 1; omega
  have h3 : (((L s).drop (o + 1)).take (E - (o + 1))).all isD = true := by
    rw [← h2, ← take_while, show (((L s).drop (o + 1)).takeWhile isW).length = E - (o + 1) by omega]
  refine ⟨(stuck_ok ho (by omega) (by omega) hst rfl h1 h2 h3).1, ?_⟩
  rw [L_drop ho, next_int hst, h2, if_pos rfl, ← L_drop ho, h1]
  rw [List.length_drop, List.length_drop, L_len, show s.size - o - (s.size - E) = E - o by omega, ← cut_drop]
  cases intV (L (s.extract o E)) <;> rfl
theorem int_bad {s : ByteArray} {o E j : Nat} (ho : o < s.size) (hE : E = s.size - (((L s).drop (o + 1)).dropWhile isW).length) (hst : isD s[o] = true ∨ (s[o].toNat = 45 ∧ hdP isD ((L s).drop (o + 1)) = true))
    (h1 : o + 1 ≤ j) (h2 : j < E) (h3 : isD (pk s j) = false) : next ((L s).drop o) = .fault 13 ((L s).drop o) := by
  rw [L_drop ho, next_int hst, if_neg]
  intro h
  have := (run_all ho hE).1 h j h1 h2
  rw [h3] at this; cases this
theorem two_new (X : Nat) (w : World) : Bes X w ((w.alloc (.cells #[.int .i64 0, .string noS, .int .i64 0, .int .i64 0, .int .i64 0, .int .i64 0] 62)).alloc (.cells #[.int .i64 0, .int .i64 0, .int .i64 0] 27)) ∧ ((w.alloc (.cells #[.int .i64 0, .string noS, .int .i64 0, .int .i64 0, .int .i64 0, .int .i64 0] 62)).alloc (.cells #[.int .i64 0, .int .i64 0, .int .i64 0] 27)).heap[w.heap.size]? = some (.cells #[.int .i64 0, .string noS, .int .i64 0, .int .i64 0, .int .i64 0, .int .i64 0] 62) ∧ ((w.alloc (.cells #[.int .i64 0, .string noS, .int .i64 0, .int .i64 0, .int .i64 0, .int .i64 0] 62)).alloc (.cells #[.int .i64 0, .int .i64 0, .int .i64 0] 27)).heap[w.heap.size + 1]? = some (.cells #[.int .i64 0, .int .i64 0, .int .i64 0] 27) :=
  ⟨((Bes.refl X w).alloc _).alloc _, two_heap _ _ rfl⟩

set_option maxRecDepth 100000 in
set_option maxHeartbeats 3200000 in
theorem integer_any (s : ByteArray) (o X : Nat) (w : World) (hs : s.size ≤ 65536) (ho : o < s.size) (hst : isD s[o] = true ∨ (s[o].toNat = 45 ∧ hdP isD ((L s).drop (o + 1)) = true)) (hR : RdB w X s o) (hER : ErrR w) (h4 : 4 < w.heap.size) (hX4 : X ≠ 4) :
    Calls Tryz.prog 62 #[.pointer (some ⟨X, 0, none⟩)] w fun e w' => TokIs s X o w (next ((L s).drop o)) e w' := by
  have hX := hR.lt
  obtain ⟨E, hE⟩ : ∃ E, E = s.size - (((L s).drop (o + 1)).dropWhile isW).length := ⟨_, rfl⟩
  obtain ⟨F, hF⟩ : ∃ F, F = if s[o].toNat = 45 then o + 1 else o := ⟨_, rfl⟩
  have hrl := run_len ((L s).drop (o + 1))
  rw [List.length_drop, L_len] at hrl
  have hEo : o + 1 ≤ E := by omega
  have hEs : E ≤ s.size := by omega
  have hFo : F = o ∨ F = o + 1 := by rw [hF]; split <;> simp
  have hFd : ((L s).drop F).dropWhile isW = ((L s).drop (o + 1)).dropWhile isW := by
    rw [hF]
    by_cases h45 : s[o].toNat = 45
    · rw [if_pos h45]
    · rw [if_neg h45, L_drop ho]
      have hd : isD s[o] = true := hst.resolve_right (fun h => h45 h.1)
      rw [List.dropWhile_cons_of_pos (isD_isW hd)]
  have HSO : Hid (F = o → isD s[o] = true) := Lib.hid (fun h => hst.resolve_right (fun h5 => by
    rw [if_pos h5.1] at hF
    omega))
  have HOK := Lib.hid (int_ok ho hE hst)
  have HBAD := Lib.hid (fun j => int_bad (j := j) ho hE hst)
  have HDW : Hid (s.size - (((L s).drop (o + 1)).dropWhile isW).length = E) := Lib.hid hE.symm
  have HR := Lib.hid hR
  obtain ⟨r0, r1⟩ := hR.rd
  have HE : Hid (s.size - (((L s).drop F).dropWhile isW).length = E) := Lib.hid (by rw [hFd, hE])
  have HER := Lib.hid hER
  obtain ⟨w1, hw1⟩ : ∃ w1, w1 = ((w.alloc (.cells #[.int .i64 0, .string noS, .int .i64 0, .int .i64 0, .int .i64 0, .int .i64 0] 62)).alloc (.cells #[.int .i64 0, .int .i64 0, .int .i64 0] 27)) := ⟨_, rfl⟩
  obtain ⟨p0, p1, p2⟩ := two_new X w
  rw [← hw1] at p0 p1 p2
  have P0 := Lib.hid p0
  have P1 := Lib.hid p1
  have P2 := Lib.hid p2
  have h1R : RdB w1 X s o := by rw [hw1]; exact RdB.alloc (RdB.alloc HR.out _) _
  have H1R := Lib.hid h1R
  have hsz : w1.heap.size = w.heap.size + 2 := by rw [hw1]; simp
  have hER1 : ErrR w1 := by
    obtain ⟨tp, p, hc⟩ := hER
    exact ⟨tp, p, by rw [World.cell?_of_block (w := w) (p0.block 4 h4 (fun h => hX4 h.symm))]; exact hc⟩
  have HER1 := Lib.hid hER1
  have HHF := Lib.hid hF
  have HW1 := Lib.hid hw1
  clear hst hE hR hER hFd hrl p0 p1 p2 hER1 hF hw1 h1R
  have ho0 : (0 : Int) ≤ (o : Int) := by omega
  have hoI : (o : Int) < (s.size : Int) := by omega
  have hoE : (o : Int) ≤ (E : Int) := by omega
  have hEI : (E : Int) ≤ (s.size : Int) := by omega
  have hwo : IntKind.i64.wrap ((o : Int) + 1) = (o : Int) + 1 := by rw [IntKind.wrap_i64]; omega
  go_enter Tryz.func62, Tryz.ntmps62
  go_upto_if 21 with fail
  go_cut [5] from 22 to 23 (fun k wx => wx = ((w.alloc (.cells #[.int .i64 0, .string noS, .int .i64 0, .int .i64 0, .int .i64 0, .int .i64 0] 62)).alloc (.cells #[.int .i64 0, .int .i64 0, .int .i64 0] 27)) ∧ k = .int .i64 (F : Int))
  case first =>
    by_cases h45 : s[o].toNat = 45
    · have e45 : ((s[o].toNat : Int) == 45) = true := by simp; omega
      have HF2 : Hid ((o : Int) + 1 = (F : Int)) := Lib.hid (by rw [HHF.out, if_pos h45]; rfl)
      go_wp2
      go_meet
      case rel => exact ⟨rfl, by rw [HF2.out]⟩
    · have e45 : ((s[o].toNat : Int) == 45) = false := by simp; omega
      have HF2 : Hid ((o : Int) = (F : Int)) := Lib.hid (by rw [HHF.out, if_neg h45])
      go_wp2
      go_meet
      case rel => exact ⟨rfl, by rw [HF2.out]⟩
  case rest =>
    obtain ⟨rfl, rfl⟩ := hcut
    rw [← HW1.out]
    obtain ⟨t0, t1⟩ := H1R.out.rd
    clear r0 r1
    go_wp2_with fail
    refine (run_any s o F X _ hs (by omega) H1R.out.rd).mono ?_
    rintro e w' ⟨rfl, rfl⟩
    rw [HE.out]
    go_wp2
    go_loop [7] (fun k => ∃ q : Nat, k = .int .i64 (q : Int) ∧ F ≤ q ∧ q ≤ E ∧ Hid (∀ j, o + 1 ≤ j → j < q → isD (pk s j) = true)) (fun k => E - (intOf k).toNat)
    case atStart => exact ⟨F, rfl, Nat.le_refl _, by omega, Lib.hid (fun j h1 h2 => by omega)⟩
    case round =>
      obtain ⟨q, rfl, hFq, hq, HQ⟩ := hrel
      by_cases h1 : q < E
      · have k0 : (0 : Int) ≤ (q : Int) := by omega
        have k1 : (q : Int) < (s.size : Int) := by omega
        have k2 : decide ((q : Int) < (E : Int)) = true := decide_eq_true (by omega)
        have hqs : q < s.size := by omega
        have hwq : IntKind.i64.wrap ((q : Int) + 1) = (q : Int) + 1 := by rw [IntKind.wrap_i64]; omega
        go_wp2_with fail
        refine (isD_any s[q] _).mono ?_
        rintro e w' ⟨rfl, rfl⟩
        cases hd : isD s[q] with
        | true =>
          have HN : Hid (∀ j, o + 1 ≤ j → j < q + 1 → isD (pk s j) = true) := Lib.hid (fun j h1 h2 => by
            by_cases h3 : j = q
            · subst h3; rw [pk_in hqs]; exact hd
            · exact HQ.out j h1 (by omega))
          go_wp2
          go_round
          case rel => exact ⟨q + 1, by go_num, by omega, by omega, HN⟩
          case measure => simp only [intOf]; omega
        | false =>
          have HN : Hid (next ((L s).drop o) = .fault 13 ((L s).drop o)) := Lib.hid (HBAD.out q (by
            rcases hFo with h5 | h5
            · by_cases h6 : q = o
              · subst h6; rw [HSO.out h5] at hd; cases hd
              · omega
            · omega) h1 (by rw [pk_in hqs]; exact hd))
          go_wp2_with fail
          refine (fault_any X 13 o _).mono ?_
          rintro e w2 ⟨he, hb⟩
          have he2 : e = .returned (.tuple #[.agg #[.int .i64 0, .string noS, .int .i64 0, .int .i64 0, .int .i64 0, .int .i64 0], .agg #[.int .i64 13, .int .i64 0, .int .i64 (o : Int)]]) := he
          subst he2
          clear he
          have q1 : w2.heap[w.heap.size]? = some (.cells #[.int .i64 0, .string noS, .int .i64 0, .int .i64 0, .int .i64 0, .int .i64 0] 62) := by
            rw [hb.block w.heap.size (by omega)]
            exact P1.out
          have q2 : w2.heap[w.heap.size + 1]? = some (.cells #[.int .i64 0, .int .i64 0, .int .i64 0] 27) := by
            rw [hb.block (w.heap.size + 1) (by omega)]
            exact P2.out
          obtain ⟨a0, a1, a2, a3, a4, a5, b0, b1, b2, b3, b4, b5⟩ := row6 q1
          obtain ⟨c0, c1, c2, d0, d1, d2⟩ := row3 q2
          obtain ⟨g1, g2⟩ := nine_set (x0 := .int .i64 0) (x1 := .string noS) (x2 := .int .i64 0) (x3 := .int .i64 0) (x4 := .int .i64 0) (x5 := .int .i64 0) (y0 := .int .i64 13) (y1 := .int .i64 0) (y2 := .int .i64 (o : Int)) q1 q2
          have G1 := Lib.hid g1
          have G2 := Lib.hid g2
          have HB : Hid (Bes X w (nine w2 w.heap.size (w.heap.size + 1) (.int .i64 0) (.string noS) (.int .i64 0) (.int .i64 0) (.int .i64 0) (.int .i64 0) (.int .i64 13) (.int .i64 0) (.int .i64 (o : Int)))) := Lib.hid (nine_bes (P0.out.trans (Bes.of hb)) (by omega) (by omega))
          clear g1 g2 q1 q2 hb
          go_wp2
          refine bodyPost_ret (results_two_rows rfl _ _ w.heap.size (w.heap.size + 1) 62 27 _ _ (0, 0) (0, 0) _ _ rfl G1.out Tryz.underlying62 rfl Tryz.size32 rfl G2.out Tryz.underlying27 rfl Tryz.size25) rfl ?_
          exact fault_end HN.out (by rw [List.length_drop, L_len]; omega) HB.out
      · have k2 : decide ((q : Int) < (E : Int)) = false := decide_eq_false (by omega)
        have hqE : q = E := by omega
        obtain ⟨hsp, hnx⟩ := HOK.out (by rw [← hqE]; exact HQ.out)
        obtain ⟨z, hz⟩ : ∃ z, z = s.extract o E := ⟨_, rfl⟩
        rw [← hz] at hsp hnx
        have HZ := Lib.hid hz
        have hzs : z.size ≤ 65536 := by rw [← L_len, hz, cut_drop, List.length_take, List.length_drop, L_len]; omega
        have hpi := int_parse hsp
        clear hz hsp hqE
        go_upto_region 12 with fail
        rw [← HZ.out]
        cases hv : intV (L z) with
        | none =>
          rw [hv] at hpi hnx
          have HN := Lib.hid hnx
          have HPI := Lib.hid hpi
          clear hpi hnx hv
          refine (parse_range z hzs HPI.out _ HER1.out).mono ?_
          rintro e w3 ⟨⟨m, N, rfl⟩, hb3⟩
          go_wp2_with fail
          refine (fault_any X 13 o _).mono ?_
          rintro e w2 ⟨he, hb⟩
          have he2 : e = .returned (.tuple #[.agg #[.int .i64 0, .string noS, .int .i64 0, .int .i64 0, .int .i64 0, .int .i64 0], .agg #[.int .i64 13, .int .i64 0, .int .i64 (o : Int)]]) := he
          subst he2
          clear he
          have q1 : w2.heap[w.heap.size]? = some (.cells #[.int .i64 0, .string noS, .int .i64 0, .int .i64 0, .int .i64 0, .int .i64 0] 62) := by
            rw [hb.block w.heap.size (by have := hb3.size; omega)]
            exact (hb3.block _ (by omega)).trans P1.out
          have q2 : w2.heap[w.heap.size + 1]? = some (.cells #[.int .i64 0, .int .i64 0, .int .i64 0] 27) := by
            rw [hb.block (w.heap.size + 1) (by have := hb3.size; omega)]
            exact (hb3.block _ (by omega)).trans P2.out
          obtain ⟨a0, a1, a2, a3, a4, a5, b0, b1, b2, b3, b4, b5⟩ := row6 q1
          obtain ⟨c0, c1, c2, d0, d1, d2⟩ := row3 q2
          obtain ⟨g1, g2⟩ := nine_set (x0 := .int .i64 0) (x1 := .string noS) (x2 := .int .i64 0) (x3 := .int .i64 0) (x4 := .int .i64 0) (x5 := .int .i64 0) (y0 := .int .i64 13) (y1 := .int .i64 0) (y2 := .int .i64 (o : Int)) q1 q2
          have G1 := Lib.hid g1
          have G2 := Lib.hid g2
          have HB : Hid (Bes X w (nine w2 w.heap.size (w.heap.size + 1) (.int .i64 0) (.string noS) (.int .i64 0) (.int .i64 0) (.int .i64 0) (.int .i64 0) (.int .i64 13) (.int .i64 0) (.int .i64 (o : Int)))) := Lib.hid (nine_bes ((P0.out.trans (Bes.of hb3)).trans (Bes.of hb)) (by omega) (by omega))
          clear g1 g2 q1 q2 hb
          go_wp2
          refine bodyPost_ret (results_two_rows rfl _ _ w.heap.size (w.heap.size + 1) 62 27 _ _ (0, 0) (0, 0) _ _ rfl G1.out Tryz.underlying62 rfl Tryz.size32 rfl G2.out Tryz.underlying27 rfl Tryz.size25) rfl ?_
          exact fault_end HN.out (by rw [List.length_drop, L_len]; omega) HB.out
        | some v =>
          rw [hv] at hpi hnx
          have HN := Lib.hid hnx
          have HPI := Lib.hid hpi
          clear hpi hnx hv
          refine (parse_ok z v hzs HPI.out _).mono ?_
          rintro e w3 ⟨rfl, hb3⟩
          have R3 := Lib.hid (H1R.out.below hb3)
          obtain ⟨u0, u1⟩ := R3.out.rd
          have f1 := R3.out.froz
          go_upto_region 15 with fail
          obtain ⟨w4, hw4⟩ : ∃ w4, w4 = w3.setCell ⟨X, 1, none⟩ (.int .i64 (E : Int)) := ⟨_, rfl⟩
          rw [← hw4]
          have R4 : Hid (RdB w4 X s E) := Lib.hid (by rw [hw4]; exact R3.out.set)
          have q1 : w4.heap[w.heap.size]? = some (.cells #[.int .i64 0, .string noS, .int .i64 0, .int .i64 0, .int .i64 0, .int .i64 0] 62) := by
            rw [hw4]
            exact (Below.heap_setCell w3 ⟨X, 1, none⟩ _ w.heap.size (by simp; omega)).trans ((hb3.block w.heap.size (by omega)).trans P1.out)
          have q2 : w4.heap[w.heap.size + 1]? = some (.cells #[.int .i64 0, .int .i64 0, .int .i64 0] 27) := by
            rw [hw4]
            exact (Below.heap_setCell w3 ⟨X, 1, none⟩ _ (w.heap.size + 1) (by simp; omega)).trans ((hb3.block (w.heap.size + 1) (by omega)).trans P2.out)
          have B4 : Hid (Bes X w w4) := Lib.hid (by rw [hw4]; exact (P0.out.trans (Bes.of hb3)).set (.inl rfl) _)
          obtain ⟨a0, a1, a2, a3, a4, a5, b0, b1, b2, b3, b4, b5⟩ := row6 q1
          obtain ⟨c0, c1, c2, d0, d1, d2⟩ := row3 q2
          obtain ⟨g1, g2⟩ := nine_set (x0 := .int .i64 3) (x1 := .string noS) (x2 := .int .i64 v) (x3 := .int .i64 0) (x4 := .int .i64 (o : Int)) (x5 := .int .i64 (E : Int)) (y0 := .int .i64 0) (y1 := .int .i64 0) (y2 := .int .i64 0) q1 q2
          have G1 := Lib.hid g1
          have G2 := Lib.hid g2
          clear g1 g2 q1 q2 hw4 u0 u1 f1 hb3
          go_wp2
          refine bodyPost_ret (results_two_rows rfl _ _ w.heap.size (w.heap.size + 1) 62 27 _ _ (0, 0) (0, 0) _ _ rfl G1.out Tryz.underlying62 rfl Tryz.size32 rfl G2.out Tryz.underlying27 rfl Tryz.size25) rfl ?_
          exact tok_end (kind := 3) (op := 0) (t := noS) HN.out rfl HDW.out (nine_rd R4.out (by omega) (by omega)) (nine_bes B4.out (by omega) (by omega))
end Go.Proofs.YtncdjkdpoinfaaaGreatDoor
