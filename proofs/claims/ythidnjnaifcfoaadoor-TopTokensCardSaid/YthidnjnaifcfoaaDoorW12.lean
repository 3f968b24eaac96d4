/-
  The walk of lex's reader.gap. Conditions: the text is at most 65536 bytes long; the reader lies in a block of its own.
-/
import Derived.Test.YthidnjnaifcfoaaDoorK3
import Derived.WalkMore
namespace Go.Proofs.YthidnjnaifcfoaaDoor
open Go.RowKit Go.Shelf Pl

theorem isB_same {c : UInt8} {b : Bool} (w : World) (h : isB c = b) : Calls Tryd.prog 19 #[.int .u8 (c.toNat : Int)] w fun e w' => e = .returned (.bool b) ∧ w' = w := by
  rw [← h]
  exact (isB_any c w).mono fun _ _ h => ⟨h.1, h.2.symm⟩
theorem has_any (s p : ByteArray) (q : Nat) (b : Bool) (w : World) (h : Lib.hasPrefix ((L s).drop q) (L p) = b) : Calls Tryd.prog 20 #[.string (s.extract q s.size), .string p] w fun e w' => e = .returned (.bool b) ∧ w' = w := by
  have h1 := Any.strings_HasPrefix Tryd.lays99 (s.extract q s.size) p w
  have h2 : Lib.hasPrefix (s.extract q s.size).data.toList p.data.toList = b := by
    rw [← h]
    show Lib.hasPrefix (L (s.extract q s.size)) (L p) = _
    rw [cut_drop, List.take_of_length_le (by rw [List.length_drop, L_len]; omega)]
  rw [h2] at h1
  exact h1
theorem has_two {a b c d : UInt8} {r : List UInt8} : Lib.hasPrefix (a :: b :: r) [c, d] = (decide (a.toNat = c.toNat) && decide (b.toNat = d.toNat)) := by
  rw [Bool.eq_iff_iff]
  simp [Lib.hasPrefix, List.isPrefixOf, UInt8.toNat_inj]
  exact ⟨fun h => ⟨h.1.symm, h.2.symm⟩, fun h => ⟨h.1.symm, h.2.symm⟩⟩
theorem has_one {a c d : UInt8} : Lib.hasPrefix [a] [c, d] = false := by
  simp [Lib.hasPrefix, List.isPrefixOf]
/-- Two bytes stand there, or they do not. -/
theorem has_at {s : ByteArray} {q c d : Nat} (h : q < s.size) (hc : c < 256) (hd : d < 256) : Lib.hasPrefix ((L s).drop q) [UInt8.ofNat c, UInt8.ofNat d] = decide (s[q].toNat = c ∧ hdP (fun x => decide (x.toNat = d)) ((L s).drop (q + 1)) = true) := by
  rw [L_drop h]
  by_cases h1 : q + 1 < s.size
  · rw [L_drop h1, has_two, ofNat_back hc, ofNat_back hd]
    simp [hdP]
  · rw [show (L s).drop (q + 1) = [] from List.drop_eq_nil_of_le (by rw [L_len]; omega), has_one]
    simp [hdP]
theorem hd_two {s : ByteArray} {q d : Nat} (h : hdP (fun x => decide (x.toNat = d)) ((L s).drop (q + 1)) = true) : ∃ h2 : q + 1 < s.size, s[q + 1].toNat = d := by
  rcases Nat.lt_or_ge (q + 1) s.size with h5 | h5
  · rw [L_drop h5] at h
    exact ⟨h5, of_decide_eq_true h⟩
  · rw [hdP_end (by rw [L_len]; exact h5)] at h; cases h

def GapIs (s : ByteArray) (X : Nat) (T : List UInt8 ⊕ List UInt8) (e : Ending) (w' : World) : Prop :=
  match T with
  | .inl r => e = .returned (.tuple #[.int .i64 ((s.size - r.length : Nat) : Int), .bool true]) ∧ RdB w' X s (s.size - r.length)
  | .inr st => e = .returned (.tuple #[.int .i64 ((s.size - st.length : Nat) : Int), .bool false])
theorem RdB.set' {w : World} {X a q : Nat} {s : ByteArray} {v : Int} (h : RdB w X s a) (hv : v = (q : Int)) : RdB (w.setCell ⟨X, 1, none⟩ (.int .i64 v)) X s q := by
  rw [hv]; exact h.set
theorem at_less {w w' : World} {X a b : Nat} {s : ByteArray} (h : atOf w X = a) (h' : RdB w' X s b) (hab : a < b) (hb : b ≤ s.size) : s.size - atOf w' X < s.size - atOf w X := by
  rw [h, h'.atOf]; omega
theorem at_same {w w' : World} {X a b : Nat} {s : ByteArray} (h : RdB w X s a) (h' : RdB w' X s b) (hab : a = b) : w'.cell? ⟨X, 1, none⟩ = w.cell? ⟨X, 1, none⟩ := by
  rw [h.rd.2, h'.rd.2, hab]
theorem Bes.drews {X : Nat} {w w1 w2 : World} (h : Bes X w w1) (h1 : w2.os = w1.os) (h2 : w2.tape = w1.tape) (h3 : w2.output = w1.output) (h4 : w2.heap = w1.heap) : Bes X w w2 :=
  ⟨h1.trans h.os, h2.trans h.tape, h3.trans h.output, by rw [h4]; exact h.size, by rw [h4]; exact h.block⟩
theorem Bes.set1 {X n : Nat} {w w1 : World} {v : Value} (h : Bes X w w1) : Bes X w ((w1.drewN n).setCell ⟨X, 1, none⟩ v) := (h.drewN n).set (.inl rfl) v

set_option maxRecDepth 100000 in
set_option maxHeartbeats 3200000 in
theorem gap_any (s : ByteArray) (p X : Nat) (w : World) (hp : p ≤ s.size) (hs : s.size ≤ 65536) (hR : RdB w X s p) : Calls Tryd.prog 11 #[.pointer (some ⟨X, 0, none⟩)] w fun e w' => GapIs s X (gap .out ((L s).drop p)) e w' ∧ Bes X w w' := by
  obtain ⟨T, hT⟩ : ∃ T, T = gap .out ((L s).drop p) := ⟨_, rfl⟩
  rw [← hT]
  have HT := Lib.hid hT.symm
  have HR := Lib.hid hR
  clear hT hR
  go_enter Tryd.func11, Tryd.ntmps11
  go_wp2
  refine wp_scope_straight ?_
  apply wp_seq
  apply wp_label
  simp only [Exit.then]
  go_wp2
  go_loopw [] (fun wr => ∃ q : Nat, q ≤ s.size ∧ Hid (RdB wr X s q) ∧ Hid (Bes X w wr) ∧ Hid (gap .out ((L s).drop q) = T)) (fun wr => s.size - atOf wr X)
  case atStart => exact ⟨p, hp, HR, Lib.hid (Bes.refl _ _), HT⟩
  case round =>
    obtain ⟨q, hq, HRR, HBB, HQ⟩ := hrel
    obtain ⟨r0, r1⟩ := HRR.out.rd
    have f1 := HRR.out.froz
    have HA := Lib.hid HRR.out.atOf
    by_cases h1 : q < s.size
    · have hqI : (q : Int) < (s.size : Int) := by omega
      have hqL : (q : Int) ≤ (s.size : Int) := by omega
      have hqd : decide ((q : Int) < (s.size : Int)) = true := decide_eq_true hqI
      have hq0 : (0 : Int) ≤ (q : Int) := by omega
      have HD := Lib.hid (L_drop h1)
      have hw1 : IntKind.i64.wrap ((q : Int) + 1) = (q : Int) + 1 := by rw [IntKind.wrap_i64]; omega
      have hw2 : IntKind.i64.wrap ((q : Int) + 2) = (q : Int) + 2 := by rw [IntKind.wrap_i64]; omega
      cases hb : isB s[q] with
      | true =>
        have HN : Hid (gap .out ((L s).drop (q + 1)) = T) := by rw [← gap_blank (a := s[q]) hb, ← HD.out]; exact HQ.out
        clear HD
        go_wp2_with fail
        go_quiet (fail)
        go_wp2_with fail
        go_quiet (first | (go_at_call 19; exact (isB_same _ hb).mono fun _ _ h => ⟨h.1, _, h.2⟩))
        go_wp2
        have HZ := RdB.set' (v := (q : Int) + 1) (q := q + 1) HRR.out (by omega)
        go_roundw
        case rel => exact ⟨q + 1, by omega, Lib.hid (RdB.set' HRR.out (by omega)), Lib.hid HBB.out.set1, HN⟩
        case measure => exact at_less HA.out (RdB.set' HRR.out (q := q + 1) (by omega)) (by omega) (by omega)
      | false =>
        by_cases b37 : s[q].toNat = 37
        · have e37 : ((s[q].toNat : Int) == 37) = true := by simp; omega
          have HN : Hid (gap .line ((L s).drop q) = T) := by
            have h5 := HQ.out
            rw [HD.out, gap_mark b37] at h5
            rw [HD.out, line_step (by omega)]
            exact h5
          have HB37 := Lib.hid b37
          clear HD HQ b37
          go_wp2_with fail
          go_quiet (fail)
          go_wp2_with fail
          go_quiet (first | (go_at_call 19; exact (isB_same _ hb).mono fun _ _ h => ⟨h.1, _, h.2⟩))
          go_wp2_with fail
          go_quiet (fail)
          clear e37
          go_wp2
          go_loopw [] (fun wr2 => ∃ q2 : Nat, q ≤ q2 ∧ q2 ≤ s.size ∧ Hid (RdB wr2 X s q2) ∧ Hid (Bes X w wr2) ∧ Hid (gap .line ((L s).drop q2) = T)) (fun wr2 => s.size - atOf wr2 X)
          case atStart => exact ⟨q, Nat.le_refl _, hq, HRR, Lib.hid (((HBB.out.drewN _).drewN _).drewN _), HN⟩
          case round =>
            obtain ⟨q2, hqq, hq2, HRR2, HBB2, HQ2⟩ := hrel
            obtain ⟨t0, t1⟩ := HRR2.out.rd
            have g1 := HRR2.out.froz
            have HA2 := Lib.hid HRR2.out.atOf
            clear r0 r1 f1
            by_cases h2 : q2 < s.size
            · have h2I : (q2 : Int) < (s.size : Int) := by omega
              have h20 : (0 : Int) ≤ (q2 : Int) := by omega
              have hw3 : IntKind.i64.wrap ((q2 : Int) + 1) = (q2 : Int) + 1 := by rw [IntKind.wrap_i64]; omega
              have h2d : decide ((q2 : Int) < (s.size : Int)) = true := decide_eq_true h2I
              have HD2 := Lib.hid (L_drop h2)
              by_cases b10 : s[q2].toNat = 10
              · have e10 : ((s[q2].toNat : Int) != 10) = false := by simp; omega
                have hlt : q < q2 := by
                  have : q2 ≠ q := fun e => by
                    subst e
                    have := HB37.out
                    omega
                  omega
                have HN2 : Hid (gap .out ((L s).drop q2) = T) := by rw [HD2.out, ← line_stop b10, ← HD2.out]; exact HQ2.out
                clear HD2
                go_wp2_with fail
                go_quiet (fail)
                go_wp2
                go_roundw
                case rel => exact ⟨q2, hq2, HRR2, Lib.hid (HBB2.out.drewN _), HN2⟩
                case measure => exact at_less HA.out HRR2.out (by omega) (by omega)
              · have e10 : ((s[q2].toNat : Int) != 10) = true := by simp; omega
                have HN2 : Hid (gap .line ((L s).drop (q2 + 1)) = T) := by rw [← line_step b10, ← HD2.out]; exact HQ2.out
                clear HD2
                go_wp2_with fail
                go_quiet (fail)
                go_wp2
                go_roundw
                case rel => exact ⟨q2 + 1, by omega, by omega, Lib.hid (RdB.set' HRR2.out (by omega)), Lib.hid HBB2.out.set1, HN2⟩
                case measure => exact at_less HA2.out (RdB.set' HRR2.out (q := q2 + 1) (by omega)) (by omega) (by omega)
            · have e : q2 = s.size := by omega
              have h2d : decide ((q2 : Int) < (s.size : Int)) = false := decide_eq_false (by omega)
              have HN2 : Hid (gap .out ((L s).drop q2) = T) := by
                have h5 := HQ2.out
                rw [e, L_end] at h5 ⊢
                rw [← line_end]; exact h5
              clear e
              go_wp2_with fail
              go_quiet (fail)
              go_wp2
              go_roundw
              case rel => exact ⟨q2, hq2, HRR2, Lib.hid (HBB2.out.drewN _), HN2⟩
              case measure => exact at_less HA.out HRR2.out (by omega) (by omega)
        · have e37 : ((s[q].toNat : Int) == 37) = false := by simp; omega
          by_cases b47 : s[q].toNat = 47 ∧ hdP (fun x => decide (x.toNat = 42)) ((L s).drop (q + 1)) = true
          · have HP : Hid (Lib.hasPrefix ((L s).drop q) (L ⟨#[47, 42]⟩) = true) := Lib.hid (by
              have h5 := has_at (c := 47) (d := 42) h1 (by omega) (by omega)
              rw [decide_eq_true b47] at h5
              exact h5)
            obtain ⟨h3, b42⟩ := hd_two b47.2
            have HN : Hid (gap (.block 1 ((L s).drop q)) ((L s).drop (q + 2)) = T) := by
              have h5 := HQ.out
              rw [HD.out, L_drop h3, gap_open b47.1 b42] at h5
              rw [HD.out, L_drop h3]; exact h5
            have HL0 : Hid (((L s).drop q).length = s.size - q) := Lib.hid (by rw [List.length_drop, L_len])
            have h32 : q + 2 ≤ s.size := h3
            clear HD HQ b47 b42
            go_wp2_with fail
            go_quiet (fail)
            go_wp2_with fail
            go_quiet (first | (go_at_call 19; exact (isB_same _ hb).mono fun _ _ h => ⟨h.1, _, h.2⟩))
            go_wp2_with fail
            go_quiet (fail)
            go_wp2_with fail
            go_quiet (first | (go_at_call 20; exact (has_any _ _ _ true _ HP.out).mono fun _ _ h => ⟨h.1, _, h.2⟩))
            clear e37
            go_wp2
            go_loopw [5] (fun d wr2 => ∃ q2 n : Nat, d = .int .i64 (n : Int) ∧ 0 < n ∧ q < q2 ∧ q2 ≤ s.size ∧ n ≤ q2 ∧ Hid (RdB wr2 X s q2) ∧ Hid (Bes X w wr2) ∧ Hid (gap (.block n ((L s).drop q)) ((L s).drop q2) = T)) (fun _ wr2 => s.size - atOf wr2 X)
            case atStart => exact ⟨q + 2, 1, rfl, by omega, by omega, h32, by omega, Lib.hid (RdB.set' HRR.out (by omega)), Lib.hid (HBB.out.set1), HN⟩
            case round =>
              obtain ⟨q2, n, rfl, hn0, hqq, hq2, hn2, HRR2, HBB2, HQ2⟩ := hrel
              obtain ⟨t0, t1⟩ := HRR2.out.rd
              have g1 := HRR2.out.froz
              have HA2 := Lib.hid HRR2.out.atOf
              clear r0 r1 f1
              by_cases h2 : q2 < s.size
              · have h2I : (q2 : Int) < (s.size : Int) := by omega
                have h2L : (q2 : Int) ≤ (s.size : Int) := by omega
                have h20 : (0 : Int) ≤ (q2 : Int) := by omega
                have hw3 : IntKind.i64.wrap ((q2 : Int) + 1) = (q2 : Int) + 1 := by rw [IntKind.wrap_i64]; omega
                have hw4 : IntKind.i64.wrap ((q2 : Int) + 2) = (q2 : Int) + 2 := by rw [IntKind.wrap_i64]; omega
                have hw5 : IntKind.i64.wrap ((n : Int) + 1) = (n : Int) + 1 := by rw [IntKind.wrap_i64]; omega
                have hw6 : IntKind.i64.wrap ((n : Int) - 1) = (n : Int) - 1 := by rw [IntKind.wrap_i64]; omega
                have h2d : decide ((q2 : Int) < (s.size : Int)) = true := decide_eq_true h2I
                by_cases c47 : s[q2].toNat = 47 ∧ hdP (fun x => decide (x.toNat = 42)) ((L s).drop (q2 + 1)) = true
                · have HP2 : Hid (Lib.hasPrefix ((L s).drop q2) (L ⟨#[47, 42]⟩) = true) := Lib.hid (by
                    have h5 := has_at (c := 47) (d := 42) h2 (by omega) (by omega)
                    rw [decide_eq_true c47] at h5
                    exact h5)
                  obtain ⟨k3, c42⟩ := hd_two c47.2
                  have k32 : q2 + 2 ≤ s.size := k3
                  have HN3 : Hid (gap (.block (n + 1) ((L s).drop q)) ((L s).drop (q2 + 2)) = T) := by
                    have h6 := HQ2.out
                    rw [L_drop h2, L_drop k3, block_up c47.1 c42] at h6
                    exact h6
                  clear c47 c42
                  go_wp2_with fail
                  go_quiet (fail)
                  go_wp2_with fail
                  go_quiet (first | (go_at_call 20; exact (has_any _ _ _ true _ HP2.out).mono fun _ _ h => ⟨h.1, _, h.2⟩))
                  go_wp2
                  go_roundw
                  case rel => exact ⟨q2 + 2, n + 1, by go_num, by omega, by omega, by omega, by omega, Lib.hid (RdB.set' HRR2.out (by omega)), Lib.hid (HBB2.out.set1), HN3⟩
                  case measure => exact at_less HA2.out (RdB.set' HRR2.out (q := q2 + 2) (by omega)) (by omega) (by omega)
                · have HP2 : Hid (Lib.hasPrefix ((L s).drop q2) (L ⟨#[47, 42]⟩) = false) := Lib.hid (by
                    have h5 := has_at (c := 47) (d := 42) h2 (by omega) (by omega)
                    rw [decide_eq_false c47] at h5
                    exact h5)
                  by_cases c42 : s[q2].toNat = 42 ∧ hdP (fun x => decide (x.toNat = 47)) ((L s).drop (q2 + 1)) = true
                  · have HP3 : Hid (Lib.hasPrefix ((L s).drop q2) (L ⟨#[42, 47]⟩) = true) := Lib.hid (by
                      have h5 := has_at (c := 42) (d := 47) h2 (by omega) (by omega)
                      rw [decide_eq_true c42] at h5
                      exact h5)
                    obtain ⟨k3, d47⟩ := hd_two c42.2
                    have k32 : q2 + 2 ≤ s.size := k3
                    by_cases n1 : n = 1
                    · have hz : ((n : Int) - 1 == 0) = true := by simp; omega
                      have HN3 : Hid (gap .out ((L s).drop (q2 + 2)) = T) := by
                        have h6 := HQ2.out
                        rw [L_drop h2, L_drop k3, block_down c42.1 d47, if_pos n1] at h6
                        exact h6
                      clear c47 c42 n1
                      go_wp2_with fail
                      go_quiet (fail)
                      go_wp2_with fail
                      go_quiet (first | (go_at_call 20; exact (has_any _ _ _ false _ HP2.out).mono fun _ _ h => ⟨h.1, _, h.2⟩))
                      go_wp2_with fail
                      go_quiet (first | (go_at_call 20; exact (has_any _ _ _ true _ HP3.out).mono fun _ _ h => ⟨h.1, _, h.2⟩))
                      go_wp2
                      go_roundw
                      case rel => exact ⟨q2 + 2, by omega, Lib.hid (RdB.set' HRR2.out (by omega)), Lib.hid (HBB2.out.set1), HN3⟩
                      case measure => exact at_less HA.out (RdB.set' HRR2.out (q := q2 + 2) (by omega)) (by omega) (by omega)
                    · have hz : ((n : Int) - 1 == 0) = false := by simp; omega
                      have HN3 : Hid (gap (.block (n - 1) ((L s).drop q)) ((L s).drop (q2 + 2)) = T) := by
                        have h6 := HQ2.out
                        rw [L_drop h2, L_drop k3, block_down c42.1 d47, if_neg n1] at h6
                        exact h6
                      have hn1 : (n : Int) - 1 = ((n - 1 : Nat) : Int) := by omega
                      have HN1 := Lib.hid hn1
                      clear c47 c42 hn1
                      go_wp2_with fail
                      go_quiet (fail)
                      go_wp2_with fail
                      go_quiet (first | (go_at_call 20; exact (has_any _ _ _ false _ HP2.out).mono fun _ _ h => ⟨h.1, _, h.2⟩))
                      go_wp2_with fail
                      go_quiet (first | (go_at_call 20; exact (has_any _ _ _ true _ HP3.out).mono fun _ _ h => ⟨h.1, _, h.2⟩))
                      go_wp2
                      go_roundw
                      case rel => exact ⟨q2 + 2, n - 1, by rw [HN1.out], by omega, by omega, by omega, by omega, Lib.hid (RdB.set' HRR2.out (by omega)), Lib.hid (HBB2.out.set1), HN3⟩
                      case measure => exact at_less HA2.out (RdB.set' HRR2.out (q := q2 + 2) (by omega)) (by omega) (by omega)
                  · have HP3 : Hid (Lib.hasPrefix ((L s).drop q2) (L ⟨#[42, 47]⟩) = false) := Lib.hid (by
                      have h5 := has_at (c := 42) (d := 47) h2 (by omega) (by omega)
                      rw [decide_eq_false c42] at h5
                      exact h5)
                    have HN3 : Hid (gap (.block n ((L s).drop q)) ((L s).drop (q2 + 1)) = T) := by
                      have h6 := HQ2.out
                      by_cases k3 : q2 + 1 < s.size
                      · rw [L_drop h2, L_drop k3, block_step (fun hh => c47 ⟨hh.1, by rw [L_drop k3]; exact decide_eq_true hh.2⟩) (fun hh => c42 ⟨hh.1, by rw [L_drop k3]; exact decide_eq_true hh.2⟩)] at h6
                        rw [L_drop k3]; exact h6
                      · rw [block_short _ _ _ (by rw [List.length_drop, L_len]; omega)] at h6
                        rw [block_short _ _ _ (by rw [List.length_drop, L_len]; omega)]
                        exact h6
                    clear c47 c42
                    go_wp2_with fail
                    go_quiet (fail)
                    go_wp2_with fail
                    go_quiet (first | (go_at_call 20; exact (has_any _ _ _ false _ HP2.out).mono fun _ _ h => ⟨h.1, _, h.2⟩))
                    go_wp2_with fail
                    go_quiet (first | (go_at_call 20; exact (has_any _ _ _ false _ HP3.out).mono fun _ _ h => ⟨h.1, _, h.2⟩))
                    go_wp2
                    go_roundw
                    case rel => exact ⟨q2 + 1, n, rfl, hn0, by omega, by omega, by omega, Lib.hid (RdB.set' HRR2.out (by omega)), Lib.hid (HBB2.out.set1), HN3⟩
                    case measure => exact at_less HA2.out (RdB.set' HRR2.out (q := q2 + 1) (by omega)) (by omega) (by omega)
              · have h2d : decide ((q2 : Int) < (s.size : Int)) = false := decide_eq_false (by omega)
                have hfin : Hid (∀ w' : World, GapIs s X T (.returned (.tuple #[.int .i64 (q : Int), .bool false])) w') := Lib.hid (fun w' => by
                  have h6 := HQ2.out
                  rw [block_short _ _ _ (by rw [List.length_drop, L_len]; omega)] at h6
                  unfold GapIs
                  rw [← h6]
                  simp only
                  rw [HL0.out, show s.size - (s.size - q) = q by omega])
                go_wp2_with fail
                go_quiet (fail)
                go_wp2
                try rw [Exit.noGoto_ret]
                go_ret2
                exact ⟨hfin.out _, HBB2.out.drewN _⟩
          · have HP : Hid (Lib.hasPrefix ((L s).drop q) (L ⟨#[47, 42]⟩) = false) := Lib.hid (by
              have h5 := has_at (c := 47) (d := 42) h1 (by omega) (by omega)
              rw [decide_eq_false b47] at h5
              exact h5)
            have HN : Hid (T = .inl ((L s).drop q)) := by
              rw [← HQ.out, HD.out]
              exact Lib.hid (gap_stop hb b37 b47)
            have hfin : Hid (∀ w' : World, RdB w' X s q → GapIs s X T (.returned (.tuple #[.int .i64 (q : Int), .bool true])) w') := Lib.hid (fun w' hr => by
              unfold GapIs
              rw [HN.out]
              simp only [List.length_drop, L_len]
              rw [show s.size - (s.size - q) = q by omega]
              exact ⟨rfl, hr⟩)
            clear HD HQ b47
            go_wp2_with fail
            go_quiet (fail)
            go_wp2_with fail
            go_quiet (first | (go_at_call 19; exact (isB_same _ hb).mono fun _ _ h => ⟨h.1, _, h.2⟩))
            go_wp2_with fail
            go_quiet (fail)
            go_wp2_with fail
            go_quiet (first | (go_at_call 20; exact (has_any _ _ _ false _ HP.out).mono fun _ _ h => ⟨h.1, _, h.2⟩))
            go_wp2
            try rw [Exit.noGoto_ret]
            go_ret2
            exact ⟨hfin.out _ HRR.out, HBB.out.drewN _⟩
    · have hqd : decide ((q : Int) < (s.size : Int)) = false := decide_eq_false (by omega)
      have e : q = s.size := by omega
      have hfin : Hid (∀ w' : World, RdB w' X s q → GapIs s X T (.returned (.tuple #[.int .i64 (q : Int), .bool true])) w') := Lib.hid (fun w' hr => by
        have h5 := HQ.out
        rw [e, L_end, gap_end] at h5
        unfold GapIs
        rw [← h5]
        simp only [List.length_nil, Nat.sub_zero, ← e]
        exact ⟨trivial, hr⟩)
      clear e
      go_wp2_with fail
      go_quiet (fail)
      go_wp2
      try rw [Exit.noGoto_ret]
      go_ret2
      exact ⟨hfin.out _ HRR.out, HBB.out.drewN _⟩
end Go.Proofs.YthidnjnaifcfoaaDoor
