/-
  The walk of lex's reader.integer. Conditions: the text is at most 65536 bytes long; the reader lies in a block of its own, at a number's first byte; strconv.ErrRange holds a value.
-/
import Derived.Test.YthidnjnaifcfoaaDoorW12
namespace Go.Proofs.YthidnjnaifcfoaaDoor
open Go.RowKit Go.Shelf Pl

/-- strconv.ErrRange holds a value. -/
def ErrR (w : World) : Prop := ∃ tp p, w.cell? ⟨4, 0, none⟩ = some (.iface tp p)
theorem parse_ok (z : ByteArray) (v : Int) (hz : z.size ≤ 65536) (h : Lib.parseIntB 64 (L z) = .ok v) (w : World) :
    Calls Tryd.prog 33 #[.string z, .int .i64 10, .int .i64 64] w fun e w' => e = .returned (.tuple #[.int .i64 v, .nilIface]) ∧ Below w.heap.size w w' :=
  (Any.strconv_ParseInt_10_at64_ok Tryd.laysC174 z (by omega) v h w).mono fun e w' ⟨he, h⟩ => ⟨he, by
    rcases h with rfl | ⟨t, rfl⟩
    · exact Below.refl _ _
    · exact Lib.bytesWorld_below _ _ _⟩
theorem parse_range (z : ByteArray) (hz : z.size ≤ 65536) (h : Lib.parseIntB 64 (L z) = .range) (w : World) (hw : ErrR w) :
    Calls Tryd.prog 33 #[.string z, .int .i64 10, .int .i64 64] w fun e w' => (∃ m N, e = .returned (.tuple #[.int .i64 m, .iface 76 (.pointer (some ⟨N, 0, none⟩))])) ∧ Below w.heap.size w w' := by
  obtain ⟨tp, p, hc⟩ := hw
  exact (Any.strconv_ParseInt_10_at64_range Tryd.laysC174 z (by omega) h (.iface tp p) w hc (Or.inr ⟨tp, p, rfl⟩)).mono fun e w' ⟨N, he, _, _, hb⟩ => ⟨⟨_, N, he⟩, hb⟩

theorem run_all {s : ByteArray} {o E : Nat} (ho : o < s.size) (hE : E = s.size - (((L s).drop (o + 1)).dropWhile isW).length) :
    (((L s).drop (o + 1)).takeWhile isW).all isD = true ↔ ∀ j, o + 1 ≤ j → j < E → isD (pk s j) = true := by
  have hrl := run_len ((L s).drop (o + 1))
  rw [List.length_drop, L_len] at hrl
  rw [← take_while, show (((L s).drop (o + 1)).takeWhile isW).length = E - (o + 1) by omega, List.all_eq_true]
  constructor
  · intro h j h1 h2
    have h3 : j < s.size := by omega
    refine h _ ?_
    rw [List.mem_iff_getElem]
    refine ⟨j - (o + 1), by rw [List.length_take, List.length_drop, L_len]; omega, ?_⟩
    rw [List.getElem_take, List.getElem_drop, pk_in h3, ← L_get h3]
    congr 1; omega
  · intro h x hx
    obtain ⟨i, hi, rfl⟩ := List.mem_iff_getElem.1 hx
    rw [List.length_take, List.length_drop, L_len] at hi
    have h3 : o + 1 + i < s.size := by omega
    have h4 := h (o + 1 + i) (by omega) (by omega)
    rw [pk_in h3, ← L_get h3] at h4
    rw [List.getElem_take, List.getElem_drop]
    exact h4
theorem int_ok {s : ByteArray} {o E : Nat} (ho : o < s.size) (hE : E = s.size - (((L s).drop (o + 1)).dropWhile isW).length) (hst : isD s[o] = true ∨ (s[o].toNat = 45 ∧ hdP isD ((L s).drop (o + 1)) = true))
    (hall : ∀ j, o + 1 ≤ j → j < E → isD (pk s j) = true) :
    IntSp (L (s.extract o E)) ∧ next ((L s).drop o) = match intV (L (s.extract o E)) with | some v => .tok 3 0 [] v (((L s).drop (o + 1)).dropWhile isW) | none => .fault 13 ((L s).drop o) := by
  have hrl := run_len ((L s).drop (o + 1))
  rw [List.length_drop, L_len] at hrl
  have h2 := (run_all ho hE).2 hall
  have h1 : ((L s).drop (o + 1)).dropWhile isW = (L s).drop E := by
    have h3 := while_split isW ((L s).drop (o + 1))
    have h4 : ((L s).drop (o + 1)).drop (((L s).drop (o + 1)).takeWhile isW).length = ((L s).drop (o + 1)).dropWhile isW := by
      conv => lhs; rw [h3]
      rw [← h3]
      conv => lhs; arg 2; rw [h3]
      exact List.drop_left
    rw [← h4, List.drop_drop]
    congr 1; omega
  have h3 : (((L s).drop (o + 1)).take (E - (o + 1))).all isD = true := by
    rw [← h2, ← take_while, show (((L s).drop (o + 1)).takeWhile isW).length = E - (o + 1) by omega]
  refine ⟨(stuck_ok ho (by omega) (by omega) hst rfl h1 h2 h3).1, ?_⟩
  rw [L_drop ho, next_int hst, h2, if_pos rfl, ← L_drop ho, h1]
  rw [List.length_drop, List.length_drop, L_len, show s.size - o - (s.size - E) = E - o by omega, ← cut_drop]
  cases intV (L (s.extract o E)) <;> rfl
theorem int_bad {s : ByteArray} {o E j : Nat} (ho : o < s.size) (hE : E = s.size - (((L s).drop (o + 1)).dropWhile isW).length) (hst : isD s[o] = true ∨ (s[o].toNat = 45 ∧ hdP isD ((L s).drop (o + 1)) = true))
    (h1 : o + 1 ≤ j) (h2 : j < E) (h3 : isD (pk s j) = false) : next ((L s).drop o) = .fault 13 ((L s).drop o) := by
  rw [L_drop ho, next_int hst, if_neg]
  intro h
  have := (run_all ho hE).1 h j h1 h2
  rw [h3] at this; cases this
theorem two_new (X : Nat) (w : World) : Bes X w ((w.alloc (.cells #[.int .i64 0, .string noS, .int .i64 0, .int .i64 0, .int .i64 0, .int .i64 0] 32)).alloc (.cells #[.int .i64 0, .int .i64 0, .int .i64 0] 25)) ∧ ((w.alloc (.cells #[.int .i64 0, .string noS, .int .i64 0, .int .i64 0, .int .i64 0, .int .i64 0] 32)).alloc (.cells #[.int .i64 0, .int .i64 0, .int .i64 0] 25)).heap[w.heap.size]? = some (.cells #[.int .i64 0, .string noS, .int .i64 0, .int .i64 0, .int .i64 0, .int .i64 0] 32) ∧ ((w.alloc (.cells #[.int .i64 0, .string noS, .int .i64 0, .int .i64 0, .int .i64 0, .int .i64 0] 32)).alloc (.cells #[.int .i64 0, .int .i64 0, .int .i64 0] 25)).heap[w.heap.size + 1]? = some (.cells #[.int .i64 0, .int .i64 0, .int .i64 0] 25) :=
  ⟨((Bes.refl X w).alloc _).alloc _, two_heap _ _ rfl⟩

set_option maxRecDepth 100000 in
set_option maxHeartbeats 3200000 in
theorem integer_any (s : ByteArray) (o X : Nat) (w : World) (hs : s.size ≤ 65536) (ho : o < s.size) (hst : isD s[o] = true ∨ (s[o].toNat = 45 ∧ hdP isD ((L s).drop (o + 1)) = true)) (hR : RdB w X s o) (hER : ErrR w) (h4 : 4 < w.heap.size) (hX4 : X ≠ 4) :
    Calls Tryd.prog 24 #[.pointer (some ⟨X, 0, none⟩)] w fun e w' => TokIs s X o w (next ((L s).drop o)) e w' := by
  have hX := hR.lt
  obtain ⟨E, hE⟩ : ∃ E, E = s.size - (((L s).drop (o + 1)).dropWhile isW).length := ⟨_, rfl⟩
  obtain ⟨F, hF⟩ : ∃ F, F = if s[o].toNat = 45 then o + 1 else o := ⟨_, rfl⟩
  have hrl := run_len ((L s).drop (o + 1))
  rw [List.length_drop, L_len] at hrl
  have hEo : o + 1 ≤ E := by omega
  have hEs : E ≤ s.size := by omega
  have hFo : F = o ∨ F = o + 1 := by rw [hF]; split <;> simp
  have hFd : ((L s).drop F).dropWhile isW = ((L s).drop (o + 1)).dropWhile isW := by
    rw [hF]
    by_cases h45 : s[o].toNat = 45
    · rw [if_pos h45]
    · rw [if_neg h45, L_drop ho]
      have hd : isD s[o] = true := hst.resolve_right (fun h => h45 h.1)
      rw [List.dropWhile_cons_of_pos (isD_isW hd)]
  have HSO : Hid (F = o → isD s[o] = true) := Lib.hid (fun h => hst.resolve_right (fun h5 => by
    rw [if_pos h5.1] at hF
    omega))
  have HOK := Lib.hid (int_ok ho hE hst)
  have HBAD := Lib.hid (fun j => int_bad (j := j) ho hE hst)
  have HDW : Hid (s.size - (((L s).drop (o + 1)).dropWhile isW).length = E) := Lib.hid hE.symm
  have HR := Lib.hid hR
  obtain ⟨r0, r1⟩ := hR.rd
  have HE : Hid (s.size - (((L s).drop F).dropWhile isW).length = E) := Lib.hid (by rw [hFd, hE])
  have HER := Lib.hid hER
  obtain ⟨w1, hw1⟩ : ∃ w1, w1 = ((w.alloc (.cells #[.int .i64 0, .string noS, .int .i64 0, .int .i64 0, .int .i64 0, .int .i64 0] 32)).alloc (.cells #[.int .i64 0, .int .i64 0, .int .i64 0] 25)) := ⟨_, rfl⟩
  obtain ⟨p0, p1, p2⟩ := two_new X w
  rw [← hw1] at p0 p1 p2
  have P0 := Lib.hid p0
  have P1 := Lib.hid p1
  have P2 := Lib.hid p2
  have h1R : RdB w1 X s o := by rw [hw1]; exact RdB.alloc (RdB.alloc HR.out _) _
  have H1R := Lib.hid h1R
  have hsz : w1.heap.size = w.heap.size + 2 := by rw [hw1]; simp
  have hER1 : ErrR w1 := by
    obtain ⟨tp, p, hc⟩ := hER
    exact ⟨tp, p, by rw [World.cell?_of_block (w := w) (p0.block 4 h4 (fun h => hX4 h.symm))]; exact hc⟩
  have HER1 := Lib.hid hER1
  have HHF := Lib.hid hF
  have HW1 := Lib.hid hw1
  clear hst hE hR hER hFd hrl p0 p1 p2 hER1 hF hw1 h1R
  have ho0 : (0 : Int) ≤ (o : Int) := by omega
  have hoI : (o : Int) < (s.size : Int) := by omega
  have hoE : (o : Int) ≤ (E : Int) := by omega
  have hEI : (E : Int) ≤ (s.size : Int) := by omega
  have hwo : IntKind.i64.wrap ((o : Int) + 1) = (o : Int) + 1 := by rw [IntKind.wrap_i64]; omega
  go_enter Tryd.func24, Tryd.ntmps24
  go_upto_if 21 with fail
  go_cut [5] from 22 to 23 (fun k wx => wx = ((w.alloc (.cells #[.int .i64 0, .string noS, .int .i64 0, .int .i64 0, .int .i64 0, .int .i64 0] 32)).alloc (.cells #[.int .i64 0, .int .i64 0, .int .i64 0] 25)) ∧ k = .int .i64 (F : Int))
  case first =>
    by_cases h45 : s[o].toNat = 45
    · have e45 : ((s[o].toNat : Int) == 45) = true := by simp; omega
      have HF2 : Hid ((o : Int) + 1 = (F : Int)) := Lib.hid (by rw [HHF.out, if_pos h45]; rfl)
      go_wp2
      go_meet
      case rel => exact ⟨rfl, by rw [HF2.out]⟩
    · have e45 : ((s[o].toNat : Int) == 45) = false := by simp; omega
      have HF2 : Hid ((o : Int) = (F : Int)) := Lib.hid (by rw [HHF.out, if_neg h45])
      go_wp2
      go_meet
      case rel => exact ⟨rfl, by rw [HF2.out]⟩
  case rest =>
    obtain ⟨rfl, rfl⟩ := hcut
    rw [← HW1.out]
    obtain ⟨t0, t1⟩ := H1R.out.rd
    clear r0 r1
    go_wp2_with fail
    refine (run_any s o F X _ hs (by omega) H1R.out.rd).mono ?_
    rintro e w' ⟨rfl, rfl⟩
    rw [HE.out]
    go_wp2
    go_loop [7] (fun k => ∃ q : Nat, k = .int .i64 (q : Int) ∧ F ≤ q ∧ q ≤ E ∧ Hid (∀ j, o + 1 ≤ j → j < q → isD (pk s j) = true)) (fun k => E - (intOf k).toNat)
    case atStart => exact ⟨F, rfl, Nat.le_refl _, by omega, Lib.hid (fun j h1 h2 => by omega)⟩
    case round =>
      obtain ⟨q, rfl, hFq, hq, HQ⟩ := hrel
      by_cases h1 : q < E
      · have k0 : (0 : Int) ≤ (q : Int) := by omega
        have k1 : (q : Int) < (s.size : Int) := by omega
        have k2 : decide ((q : Int) < (E : Int)) = true := decide_eq_true (by omega)
        have hqs : q < s.size := by omega
        have hwq : IntKind.i64.wrap ((q : Int) + 1) = (q : Int) + 1 := by rw [IntKind.wrap_i64]; omega
        go_wp2_with fail
        refine (isD_any s[q] _).mono ?_
        rintro e w' ⟨rfl, rfl⟩
        cases hd : isD s[q] with
        | true =>
          have HN : Hid (∀ j, o + 1 ≤ j → j < q + 1 → isD (pk s j) = true) := Lib.hid (fun j h1 h2 => by
            by_cases h3 : j = q
            · subst h3; rw [pk_in hqs]; exact hd
            · exact HQ.out j h1 (by omega))
          go_wp2
          go_round
          case rel => exact ⟨q + 1, by go_num, by omega, by omega, HN⟩
          case measure => simp only [intOf]; omega
        | false =>
          have HN : Hid (next ((L s).drop o) = .fault 13 ((L s).drop o)) := Lib.hid (HBAD.out q (by
            rcases hFo with h5 | h5
            · by_cases h6 : q = o
              · subst h6; rw [HSO.out h5] at hd; cases hd
              · omega
            · omega) h1 (by rw [pk_in hqs]; exact hd))
          go_wp2_with fail
          refine (fault_any X 13 o _).mono ?_
          rintro e w2 ⟨he, hb⟩
          have he2 : e = .returned (.tuple #[.agg #[.int .i64 0, .string noS, .int .i64 0, .int .i64 0, .int .i64 0, .int .i64 0], .agg #[.int .i64 13, .int .i64 0, .int .i64 (o : Int)]]) := he
          subst he2
          clear he
          have q1 : w2.heap[w.heap.size]? = some (.cells #[.int .i64 0, .string noS, .int .i64 0, .int .i64 0, .int .i64 0, .int .i64 0] 32) := by
            rw [hb.block w.heap.size (by omega)]
            exact P1.out
          have q2 : w2.heap[w.heap.size + 1]? = some (.cells #[.int .i64 0, .int .i64 0, .int .i64 0] 25) := by
            rw [hb.block (w.heap.size + 1) (by omega)]
            exact P2.out
          obtain ⟨a0, a1, a2, a3, a4, a5, b0, b1, b2, b3, b4, b5⟩ := row6 q1
          obtain ⟨c0, c1, c2, d0, d1, d2⟩ := row3 q2
          obtain ⟨g1, g2⟩ := nine_set (x0 := .int .i64 0) (x1 := .string noS) (x2 := .int .i64 0) (x3 := .int .i64 0) (x4 := .int .i64 0) (x5 := .int .i64 0) (y0 := .int .i64 13) (y1 := .int .i64 0) (y2 := .int .i64 (o : Int)) q1 q2
          have G1 := Lib.hid g1
          have G2 := Lib.hid g2
          have HB : Hid (Bes X w (nine w2 w.heap.size (w.heap.size + 1) (.int .i64 0) (.string noS) (.int .i64 0) (.int .i64 0) (.int .i64 0) (.int .i64 0) (.int .i64 13) (.int .i64 0) (.int .i64 (o : Int)))) := Lib.hid (nine_bes (P0.out.trans (Bes.of hb)) (by omega) (by omega))
          clear g1 g2 q1 q2 hb
          go_wp2
          refine bodyPost_ret (results_two_rows rfl _ _ w.heap.size (w.heap.size + 1) 32 25 _ _ (0, 0) (0, 0) _ _ rfl G1.out Tryd.underlying32 rfl Tryd.size32 rfl G2.out Tryd.underlying25 rfl Tryd.size25) rfl ?_
          exact fault_end HN.out (by rw [List.length_drop, L_len]; omega) HB.out
      · have k2 : decide ((q : Int) < (E : Int)) = false := decide_eq_false (by omega)
        have hqE : q = E := by omega
        obtain ⟨hsp, hnx⟩ := HOK.out (by rw [← hqE]; exact HQ.out)
        obtain ⟨z, hz⟩ : ∃ z, z = s.extract o E := ⟨_, rfl⟩
        rw [← hz] at hsp hnx
        have HZ := Lib.hid hz
        have hzs : z.size ≤ 65536 := by rw [← L_len, hz, cut_drop, List.length_take, List.length_drop, L_len]; omega
        have hpi := int_parse hsp
        clear hz hsp hqE
        go_upto_region 12 with fail
        rw [← HZ.out]
        cases hv : intV (L z) with
        | none =>
          rw [hv] at hpi hnx
          have HN := Lib.hid hnx
          have HPI := Lib.hid hpi
          clear hpi hnx hv
          refine (parse_range z hzs HPI.out _ HER1.out).mono ?_
          rintro e w3 ⟨⟨m, N, rfl⟩, hb3⟩
          go_wp2_with fail
          refine (fault_any X 13 o _).mono ?_
          rintro e w2 ⟨he, hb⟩
          have he2 : e = .returned (.tuple #[.agg #[.int .i64 0, .string noS, .int .i64 0, .int .i64 0, .int .i64 0, .int .i64 0], .agg #[.int .i64 13, .int .i64 0, .int .i64 (o : Int)]]) := he
          subst he2
          clear he
          have q1 : w2.heap[w.heap.size]? = some (.cells #[.int .i64 0, .string noS, .int .i64 0, .int .i64 0, .int .i64 0, .int .i64 0] 32) := by
            rw [hb.block w.heap.size (by have := hb3.size; omega)]
            exact (hb3.block _ (by omega)).trans P1.out
          have q2 : w2.heap[w.heap.size + 1]? = some (.cells #[.int .i64 0, .int .i64 0, .int .i64 0] 25) := by
            rw [hb.block (w.heap.size + 1) (by have := hb3.size; omega)]
            exact (hb3.block _ (by omega)).trans P2.out
          obtain ⟨a0, a1, a2, a3, a4, a5, b0, b1, b2, b3, b4, b5⟩ := row6 q1
          obtain ⟨c0, c1, c2, d0, d1, d2⟩ := row3 q2
          obtain ⟨g1, g2⟩ := nine_set (x0 := .int .i64 0) (x1 := .string noS) (x2 := .int .i64 0) (x3 := .int .i64 0) (x4 := .int .i64 0) (x5 := .int .i64 0) (y0 := .int .i64 13) (y1 := .int .i64 0) (y2 := .int .i64 (o : Int)) q1 q2
          have G1 := Lib.hid g1
          have G2 := Lib.hid g2
          have HB : Hid (Bes X w (nine w2 w.heap.size (w.heap.size + 1) (.int .i64 0) (.string noS) (.int .i64 0) (.int .i64 0) (.int .i64 0) (.int .i64 0) (.int .i64 13) (.int .i64 0) (.int .i64 (o : Int)))) := Lib.hid (nine_bes ((P0.out.trans (Bes.of hb3)).trans (Bes.of hb)) (by omega) (by omega))
          clear g1 g2 q1 q2 hb
          go_wp2
          refine bodyPost_ret (results_two_rows rfl _ _ w.heap.size (w.heap.size + 1) 32 25 _ _ (0, 0) (0, 0) _ _ rfl G1.out Tryd.underlying32 rfl Tryd.size32 rfl G2.out Tryd.underlying25 rfl Tryd.size25) rfl ?_
          exact fault_end HN.out (by rw [List.length_drop, L_len]; omega) HB.out
        | some v =>
          rw [hv] at hpi hnx
          have HN := Lib.hid hnx
          have HPI := Lib.hid hpi
          clear hpi hnx hv
          refine (parse_ok z v hzs HPI.out _).mono ?_
          rintro e w3 ⟨rfl, hb3⟩
          have R3 := Lib.hid (H1R.out.below hb3)
          obtain ⟨u0, u1⟩ := R3.out.rd
          have f1 := R3.out.froz
          go_upto_region 15 with fail
          obtain ⟨w4, hw4⟩ : ∃ w4, w4 = w3.setCell ⟨X, 1, none⟩ (.int .i64 (E : Int)) := ⟨_, rfl⟩
          rw [← hw4]
          have R4 : Hid (RdB w4 X s E) := Lib.hid (by rw [hw4]; exact R3.out.set)
          have q1 : w4.heap[w.heap.size]? = some (.cells #[.int .i64 0, .string noS, .int .i64 0, .int .i64 0, .int .i64 0, .int .i64 0] 32) := by
            rw [hw4]
            exact (Below.heap_setCell w3 ⟨X, 1, none⟩ _ w.heap.size (by simp; omega)).trans ((hb3.block w.heap.size (by omega)).trans P1.out)
          have q2 : w4.heap[w.heap.size + 1]? = some (.cells #[.int .i64 0, .int .i64 0, .int .i64 0] 25) := by
            rw [hw4]
            exact (Below.heap_setCell w3 ⟨X, 1, none⟩ _ (w.heap.size + 1) (by simp; omega)).trans ((hb3.block (w.heap.size + 1) (by omega)).trans P2.out)
          have B4 : Hid (Bes X w w4) := Lib.hid (by rw [hw4]; exact (P0.out.trans (Bes.of hb3)).set (.inl rfl) _)
          obtain ⟨a0, a1, a2, a3, a4, a5, b0, b1, b2, b3, b4, b5⟩ := row6 q1
          obtain ⟨c0, c1, c2, d0, d1, d2⟩ := row3 q2
          obtain ⟨g1, g2⟩ := nine_set (x0 := .int .i64 3) (x1 := .string noS) (x2 := .int .i64 v) (x3 := .int .i64 0) (x4 := .int .i64 (o : Int)) (x5 := .int .i64 (E : Int)) (y0 := .int .i64 0) (y1 := .int .i64 0) (y2 := .int .i64 0) q1 q2
          have G1 := Lib.hid g1
          have G2 := Lib.hid g2
          clear g1 g2 q1 q2 hw4 u0 u1 f1 hb3
          go_wp2
          refine bodyPost_ret (results_two_rows rfl _ _ w.heap.size (w.heap.size + 1) 32 25 _ _ (0, 0) (0, 0) _ _ rfl G1.out Tryd.underlying32 rfl Tryd.size32 rfl G2.out Tryd.underlying25 rfl Tryd.size25) rfl ?_
          exact tok_end (kind := 3) (op := 0) (t := noS) HN.out rfl HDW.out (nine_rd R4.out (by omega) (by omega)) (nine_bes B4.out (by omega) (by omega))
end Go.Proofs.YthidnjnaifcfoaaDoor
