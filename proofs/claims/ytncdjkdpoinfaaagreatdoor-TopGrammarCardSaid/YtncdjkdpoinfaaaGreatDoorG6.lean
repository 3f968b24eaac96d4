/-
  Texts of this seat, one behind the other: W7, W8, W9, K2, W10, K3. Conditions: those that each of them states.
-/
import Derived.Test.YtncdjkdpoinfaaaGreatDoorG5
import Derived.Deep.CutBlock
/-
  The walk of edicttop.stuck. Conditions: the text is at most 65536 bytes long; the place lies in it.
-/
namespace Go.Proofs.YtncdjkdpoinfaaaGreatDoor
open Go.RowKit Go.Shelf Pl
def hd0 : List UInt8 → UInt8
  | [] => 0
  | a :: _ => a
theorem pre_one (p : Nat) (c : UInt8) (g : List UInt8) : pre [p] (c :: g) = decide (c.toNat = p) := by
  simp [pre]
theorem pre_two (p q : Nat) (hq : q ≠ 0) (c : UInt8) (g : List UInt8) : pre [p, q] (c :: g) = (decide (c.toNat = p) && decide ((hd0 g).toNat = q)) := by
  cases g with
  | nil => simp [pre, hd0]; intro _ h; exact hq h.symm
  | cons a g => rw [Bool.eq_iff_iff]; simp [pre, hd0]; exact fun _ => (decide_eq_true_iff (p := a.toNat = q)).symm
theorem sign_fault {c : UInt8} {g : List UInt8} (n : Nat) : NxFault n (nextSign (c :: g)) = if (c.toNat = 58 ∧ (hd0 g).toNat = 45) ∨ (c.toNat = 33 ∧ (hd0 g).toNat = 61) ∨ c.toNat = 40 ∨ c.toNat = 41 ∨ c.toNat = 44 ∨ c.toNat = 46 ∨ c.toNat = 61 ∨ c.toNat = 60 ∨ c.toNat = 62 then (0, 0) else (10, n - (c :: g).length) := by
  unfold nextSign
  split
  · rename_i p kind op h
    have h1 := List.mem_of_find?_eq_some h
    have h2 := List.find?_some h
    simp only at h2
    rw [if_pos]
    · rfl
    · simp only [signs, List.mem_cons, Prod.mk.injEq, List.not_mem_nil, or_false] at h1
      rcases h1 with h1 | h1 | h1 | h1 | h1 | h1 | h1 | h1 | h1 | h1 | h1
      all_goals
        rw [h1.1] at h2
        first
          | (rw [pre_two _ _ (by omega)] at h2; simp at h2; omega)
          | (rw [pre_one] at h2; simp at h2; omega)
  · rename_i h
    rw [if_neg]
    · rfl
    · intro hc
      have h2 : ∀ x ∈ signs, pre x.1 (c :: g) = false := fun x hx => by
        have := List.find?_eq_none.1 h x hx
        simpa using this
      have a1 := h2 ([58, 45], 9, 0) (by simp [signs])
      have a2 := h2 ([33, 61], 11, 2) (by simp [signs])
      have a3 := h2 ([60], 11, 3) (by simp [signs])
      have a4 := h2 ([62], 11, 5) (by simp [signs])
      have a5 := h2 ([61], 11, 1) (by simp [signs])
      have a6 := h2 ([40], 5, 0) (by simp [signs])
      have a7 := h2 ([41], 6, 0) (by simp [signs])
      have a8 := h2 ([44], 7, 0) (by simp [signs])
      have a9 := h2 ([46], 8, 0) (by simp [signs])
      simp only [pre_one, pre_two _ _ (show (45 : Nat) ≠ 0 by omega), pre_two _ _ (show (61 : Nat) ≠ 0 by omega)] at a1 a2 a3 a4 a5 a6 a7 a8 a9
      simp at a1 a2 a3 a4 a5 a6 a7 a8 a9
      omega
theorem three_set {w' : World} {B : Nat} {fr : Nat × Nat} {a b c x y z : Value} (h : w'.heap[B]? = some (.cells #[a, b, c] 27 fr)) :
    (((w'.setCell ⟨B, 0, none⟩ x).setCell ⟨B, 1, none⟩ y).setCell ⟨B, 2, none⟩ z).heap[B]? = some (.cells #[x, y, z] 27 fr) := by
  simp [World.setCell, Array.getElem?_modify, h]
theorem three_below {w w' : World} {x y z : Value} (h : Below w.heap.size w w') :
    Below w.heap.size w (((w'.setCell ⟨w.heap.size, 0, none⟩ x).setCell ⟨w.heap.size, 1, none⟩ y).setCell ⟨w.heap.size, 2, none⟩ z) :=
  ((h.setCell (Nat.le_refl _) _).setCell (Nat.le_refl _) _).setCell (Nat.le_refl _) _

theorem hd_isD (g : List UInt8) : hdP isD g = isD (hd0 g) := by cases g <;> rfl
theorem next_word {c : UInt8} {g : List UInt8} (h1 : isD c = false) (h2 : c.toNat ≠ 45) (h : isW c = true) : next (c :: g) = nextWord (c :: g) := by
  simp only [next]
  rw [if_neg (by simp [h1]), if_neg (by omega), if_pos h]
theorem next_sign {c : UInt8} {g : List UInt8} (h1 : isD c = false) (h2 : ¬ (c.toNat = 45 ∧ hdP isD g = true)) (h3 : isW c = false) (h4 : c.toNat ≠ 34) : next (c :: g) = nextSign (c :: g) := by
  simp only [next]
  rw [if_neg (by simp [h1]), if_neg h2, if_neg (by simp [h3]), if_neg h4]
theorem word_fault {r : List UInt8} (n : Nat) : NxFault n (nextWord r) = if 64 < (r.takeWhile isW).length then (14, n - r.length) else (0, 0) := by
  unfold nextWord
  by_cases h : 64 < (r.takeWhile isW).length
  · rw [if_pos h, if_pos h]; rfl
  · rw [if_neg h, if_neg h]
    repeat' split
    all_goals rfl
theorem run_len (l : List UInt8) : l.length = (l.takeWhile isW).length + (l.dropWhile isW).length := by
  have h := congrArg List.length (while_split isW l)
  rw [List.length_append] at h
  exact h

/-- What no token can stand for, behind a gap. -/
def StFault (n : Nat) (G : List UInt8 ⊕ List UInt8) : Nat × Nat :=
  match G with
  | .inr st => (16, n - st.length)
  | .inl r => NxFault n (next r)

set_option maxRecDepth 100000 in
set_option maxHeartbeats 3200000 in
theorem stuck_any (s : ByteArray) (p : Nat) (w : World) (hp : p ≤ s.size) (hs : s.size ≤ 65536) :
    Calls Tryz.prog 23 #[.string s, .int .i64 (p : Int)] w fun e w' => e = .returned (FaultV (StFault s.size (gap .out ((L s).drop p))).1 (StFault s.size (gap .out ((L s).drop p))).2) ∧ Below w.heap.size w w' := by
  obtain ⟨T, hT⟩ : ∃ T, T = StFault s.size (gap .out ((L s).drop p)) := ⟨_, rfl⟩
  rw [← hT]
  go_enter Tryz.func23, Tryz.ntmps23
  go_wp2_with fail
  refine (skip_any s p _ hp hs).mono ?_
  rintro e w' ⟨he, rfl⟩
  cases hG : gap .out ((L s).drop p) with
  | inr st =>
    rw [hG] at he hT
    have he2 : e = .returned (.tuple #[.int .i64 ((s.size - st.length : Nat) : Int), .int .i64 ((s.size - st.length : Nat) : Int)]) := he
    subst he2
    have HF : Hid (T = (16, s.size - st.length)) := Lib.hid hT
    generalize s.size - st.length = o at HF ⊢
    have k0 : decide ((o : Int) ≥ 0) = true := decide_eq_true (by omega)
    clear hT he
    go_wp2
    refine bodyPost_ret (results_cell_row rfl _ _ w.heap.size 27 #[.int .i64 16, .int .i64 0, .int .i64 (o : Int)] (0, 0) _ rfl (heap_alloc_new _ _) Tryz.underlying27 rfl Tryz.size25) rfl ?_
    exact ⟨congrArg Ending.returned (fault_eq HF.out), up_alloc _ _⟩
  | inl r =>
    rw [hG] at he hT
    have he2 : e = .returned (.tuple #[.int .i64 ((s.size - r.length : Nat) : Int), .int .i64 (-1)]) := he
    subst he2
    have hgp := gap_place hG
    rw [L_len] at hgp
    obtain ⟨o, ho⟩ : ∃ o, o = s.size - r.length := ⟨_, rfl⟩
    rw [← ho] at hgp ⊢
    have hos : o ≤ s.size := by omega
    have hT2 : T = NxFault s.size (next ((L s).drop o)) := by rw [hT, hgp.1]; rfl
    clear hT he hG hgp ho
    by_cases h1 : o < s.size
    · have k1 : ((o : Int) == (s.size : Int)) = false := by simp; omega
      have k2 : (o : Int) < (s.size : Int) := by omega
      have k3 : (0 : Int) ≤ (o : Int) := by omega
      have hw1 : IntKind.i64.wrap ((o : Int) + 1) = (o : Int) + 1 := by rw [IntKind.wrap_i64]; omega
      obtain ⟨c, hc⟩ : ∃ c, c = s[o] := ⟨_, rfl⟩
      obtain ⟨y, hy⟩ : ∃ y, y = hd0 ((L s).drop (o + 1)) := ⟨_, rfl⟩
      obtain ⟨E, hE⟩ : ∃ E, E = s.size - (((L s).drop o).dropWhile isW).length := ⟨_, rfl⟩
      have HC := Lib.hid hc
      have HY := Lib.hid hy
      have HE := Lib.hid hE
      have HT := Lib.hid hT2
      clear hc hy hE hT2
      go_upto_region 8 with fail
      rw [← HC.out]
      go_upto_if 32 with fail
      go_cut [8] from 33 to 36 (fun k wx => wx = w.alloc (.cells #[.int .i64 0, .int .i64 0, .int .i64 0] 27) ∧ k = .int .u8 (y.toNat : Int))
      case first =>
        by_cases h2 : o + 1 < s.size
        · have m1 : decide ((o : Int) + 1 < (s.size : Int)) = true := decide_eq_true (by omega)
          have m2 : (0 : Int) ≤ (o : Int) + 1 := by omega
          have m3 : (o : Int) + 1 < (s.size : Int) := by omega
          have HY2 : Hid (s[o + 1] = y) := Lib.hid (by rw [HY.out, L_drop h2]; rfl)
          go_wp2
          go_meet
          case rel => exact ⟨rfl, by rw [HY2.out]⟩
        · have m1 : decide ((o : Int) + 1 < (s.size : Int)) = false := decide_eq_false (by omega)
          have HY2 : Hid ((0 : Int) = (y.toNat : Int)) := Lib.hid (by rw [HY.out, show (L s).drop (o + 1) = [] from List.drop_eq_nil_of_le (by rw [L_len]; omega)]; rfl)
          go_wp2
          go_meet
          case rel => exact ⟨rfl, by rw [← HY2.out]⟩
      case rest =>
        obtain ⟨rfl, rfl⟩ := hcut
        go_upto_region 10 with fail
        go_upto_block 0 with fail
        go_cut [9] from 38 to 49 (fun j wx => wx = w.alloc (.cells #[.int .i64 0, .int .i64 0, .int .i64 0] 27) ∧ j = .int .i64 (E : Int))
        case first =>
          go_wp2
          go_loop [9] (fun j => ∃ q : Nat, j = .int .i64 (q : Int) ∧ o ≤ q ∧ q ≤ s.size ∧ Hid (((L s).drop q).dropWhile isW = ((L s).drop o).dropWhile isW)) (fun j => s.size - (intOf j).toNat)
          case atStart => exact ⟨o, rfl, Nat.le_refl _, hos, Lib.hid rfl⟩
          case round =>
            obtain ⟨q, rfl, hoq, hq, HQ⟩ := hrel
            by_cases g1 : q < s.size
            · have j0 : (0 : Int) ≤ (q : Int) := by omega
              have j1 : (q : Int) < (s.size : Int) := by omega
              have j2 : decide ((q : Int) < (s.size : Int)) = true := decide_eq_true (by omega)
              have hwq : IntKind.i64.wrap ((q : Int) + 1) = (q : Int) + 1 := by rw [IntKind.wrap_i64]; omega
              obtain ⟨d, hd⟩ : ∃ d, d = s[q] := ⟨_, rfl⟩
              have HD := Lib.hid (L_drop g1)
              rw [← hd] at HD
              have HS := Lib.hid hd
              clear hd
              go_wp2_with fail
              rw [← HS.out]
              refine (wordByte_any _ _).mono ?_
              rintro e w' ⟨rfl, rfl⟩
              cases hw : isW d with
              | true =>
                have HN : Hid (((L s).drop (q + 1)).dropWhile isW = ((L s).drop o).dropWhile isW) := Lib.hid (by
                  have h5 := HQ.out
                  rw [HD.out, List.dropWhile_cons_of_pos hw] at h5
                  exact h5)
                clear HQ HD HS
                go_wp2
                go_round
                case rel => exact ⟨q + 1, by go_num, by omega, by omega, HN⟩
                case measure => simp only [intOf]; omega
              | false =>
                have hEq : q = E := by
                  have h5 := HQ.out
                  rw [HD.out, List.dropWhile_cons_of_neg (by simp [hw]), ← HD.out] at h5
                  rw [HE.out, ← h5, List.length_drop, L_len]; omega
                have HEQ := Lib.hid hEq
                clear HQ HD HS hEq
                go_wp2
                go_meet
                case rel => exact ⟨rfl, by rw [HEQ.out]⟩
            · have hEq : q = E := by
                have h5 := HQ.out
                rw [show (L s).drop q = [] from List.drop_eq_nil_of_le (by rw [L_len]; omega)] at h5
                rw [HE.out, ← h5]; simp; omega
              have HEQ := Lib.hid hEq
              have j2 : decide ((q : Int) < (s.size : Int)) = false := decide_eq_false (by omega)
              clear HQ hEq
              go_wp2
              go_meet
              case rel => exact ⟨rfl, by rw [← HEQ.out]⟩
        case rest =>
          obtain ⟨rfl, rfl⟩ := hcut
          have hD : (L s).drop o = c :: (L s).drop (o + 1) := by rw [HC.out]; exact L_drop h1
          obtain ⟨g, hg⟩ : ∃ g, g = (L s).drop (o + 1) := ⟨_, rfl⟩
          rw [← hg] at hD
          have HY' : Hid (y = hd0 g) := Lib.hid (by rw [hg]; exact HY.out)
          have HD := Lib.hid hD
          have HG := Lib.hid hg
          clear hD hg HY
          cases hdc : isD c with
          | true =>
            have hst : isD s[o] = true ∨ (s[o].toNat = 45 ∧ hdP isD ((L s).drop (o + 1)) = true) := .inl (by rw [← HC.out]; exact hdc)
            go_wp2_with fail
            refine (digit_any c _).mono ?_
            rintro e w' ⟨rfl, rfl⟩
            rw [hdc]
            have HST := Lib.hid hst
            clear hst
            have hit : NxFault s.size (next ((L s).drop o)) = T := HT.out.symm
            go_wp2_with fail
            refine (stuckInt_any s o _ h1 hs HST.out).mono ?_
            rintro e w2 ⟨rfl, hb⟩
            rw [hit]
            have hh : w2.heap[w.heap.size]? = some (.cells #[.int .i64 0, .int .i64 0, .int .i64 0] 27) := by
              rw [hb.block _ (by simp)]; exact heap_alloc_new _ _
            have c0 : w2.cell? ⟨w.heap.size, 0, none⟩ = some (.int .i64 0) := by simp only [World.cell?, hh]; rfl
            have c1 : w2.cell? ⟨w.heap.size, 1, none⟩ = some (.int .i64 0) := by simp only [World.cell?, hh]; rfl
            have c2 : w2.cell? ⟨w.heap.size, 2, none⟩ = some (.int .i64 0) := by simp only [World.cell?, hh]; rfl
            have f0 : w2.frozen? ⟨w.heap.size, 0, none⟩ = false := by simp only [World.frozen?, hh]; rfl
            have f1 : w2.frozen? ⟨w.heap.size, 1, none⟩ = false := by simp only [World.frozen?, hh]; rfl
            have f2 : w2.frozen? ⟨w.heap.size, 2, none⟩ = false := by simp only [World.frozen?, hh]; rfl
            have HB := Lib.hid (three_below (x := .int .i64 (T.1 : Int)) (y := .int .i64 0) (z := .int .i64 (T.2 : Int)) ((up_alloc w (.cells #[.int .i64 0, .int .i64 0, .int .i64 0] 27)).trans (hb.mono (by simp))))
            have HH := Lib.hid (three_set (x := .int .i64 (T.1 : Int)) (y := .int .i64 0) (z := .int .i64 (T.2 : Int)) hh)
            unfold FaultV
            clear hh hb hit
            go_wp2
            refine bodyPost_ret (results_cell_row rfl _ _ w.heap.size 27 #[.int .i64 (T.1 : Int), .int .i64 0, .int .i64 (T.2 : Int)] (0, 0) _ rfl HH.out Tryz.underlying27 rfl Tryz.size25) rfl ?_
            exact ⟨rfl, HB.out⟩
          | false =>
            by_cases b45 : c.toNat = 45
            · have e45 : ((c.toNat : Int) == 45) = true := by simp; omega
              have B45 := Lib.hid b45
              clear b45
              go_wp2_with fail
              refine (digit_any c _).mono ?_
              rintro e w' ⟨rfl, rfl⟩
              rw [hdc]
              go_wp2_with fail
              refine (digit_any y _).mono ?_
              rintro e w' ⟨rfl, rfl⟩
              cases hdy : isD y with
              | true =>
                have hst : isD s[o] = true ∨ (s[o].toNat = 45 ∧ hdP isD ((L s).drop (o + 1)) = true) := .inr ⟨by rw [← HC.out]; exact B45.out, by rw [← HG.out, hd_isD, ← HY'.out]; exact hdy⟩
                have HST := Lib.hid hst
                clear hst
                have hit : NxFault s.size (next ((L s).drop o)) = T := HT.out.symm
                go_wp2_with fail
                refine (stuckInt_any s o _ h1 hs HST.out).mono ?_
                rintro e w2 ⟨rfl, hb⟩
                rw [hit]
                have hh : w2.heap[w.heap.size]? = some (.cells #[.int .i64 0, .int .i64 0, .int .i64 0] 27) := by
                  rw [hb.block _ (by simp)]; exact heap_alloc_new _ _
                have c0 : w2.cell? ⟨w.heap.size, 0, none⟩ = some (.int .i64 0) := by simp only [World.cell?, hh]; rfl
                have c1 : w2.cell? ⟨w.heap.size, 1, none⟩ = some (.int .i64 0) := by simp only [World.cell?, hh]; rfl
                have c2 : w2.cell? ⟨w.heap.size, 2, none⟩ = some (.int .i64 0) := by simp only [World.cell?, hh]; rfl
                have f0 : w2.frozen? ⟨w.heap.size, 0, none⟩ = false := by simp only [World.frozen?, hh]; rfl
                have f1 : w2.frozen? ⟨w.heap.size, 1, none⟩ = false := by simp only [World.frozen?, hh]; rfl
                have f2 : w2.frozen? ⟨w.heap.size, 2, none⟩ = false := by simp only [World.frozen?, hh]; rfl
                have HB := Lib.hid (three_below (x := .int .i64 (T.1 : Int)) (y := .int .i64 0) (z := .int .i64 (T.2 : Int)) ((up_alloc w (.cells #[.int .i64 0, .int .i64 0, .int .i64 0] 27)).trans (hb.mono (by simp))))
                have HH := Lib.hid (three_set (x := .int .i64 (T.1 : Int)) (y := .int .i64 0) (z := .int .i64 (T.2 : Int)) hh)
                unfold FaultV
                clear hh hb hit
                go_wp2
                refine bodyPost_ret (results_cell_row rfl _ _ w.heap.size 27 #[.int .i64 (T.1 : Int), .int .i64 0, .int .i64 (T.2 : Int)] (0, 0) _ rfl HH.out Tryz.underlying27 rfl Tryz.size25) rfl ?_
                exact ⟨rfl, HB.out⟩
              | false =>
                have hw : isW c = false := by have b45 := B45.out; simp [isW, isD, isU, isL, b45]
                have hf : Hid (T = (10, o)) := Lib.hid (by
                  have b45 := B45.out
                  rw [HT.out, HD.out, next_sign hdc (fun h => by rw [hd_isD, ← HY'.out, hdy] at h; cases h.2) hw (by omega), sign_fault, if_neg (by omega), ← HD.out, List.length_drop, L_len, show s.size - (s.size - o) = o by omega])
                clear HT HD HG HY' HE
                have e34 : ((c.toNat : Int) == 34) = false := by have b45 := B45.out; simp; omega
                have e58 : ((c.toNat : Int) == 58) = false := by have b45 := B45.out; simp; omega
                have e33 : ((c.toNat : Int) == 33) = false := by have b45 := B45.out; simp; omega
                have e40 : ((c.toNat : Int) == 40) = false := by have b45 := B45.out; simp; omega
                have e41 : ((c.toNat : Int) == 41) = false := by have b45 := B45.out; simp; omega
                have e44 : ((c.toNat : Int) == 44) = false := by have b45 := B45.out; simp; omega
                have e46 : ((c.toNat : Int) == 46) = false := by have b45 := B45.out; simp; omega
                have e61 : ((c.toNat : Int) == 61) = false := by have b45 := B45.out; simp; omega
                have e60 : ((c.toNat : Int) == 60) = false := by have b45 := B45.out; simp; omega
                have e62 : ((c.toNat : Int) == 62) = false := by have b45 := B45.out; simp; omega
                go_wp2_with fail
                refine (wordByte_any c _).mono ?_
                rintro e w' ⟨rfl, rfl⟩
                rw [hw]
                go_wp2
                refine bodyPost_ret (results_cell_row rfl _ _ w.heap.size 27 #[.int .i64 10, .int .i64 0, .int .i64 (o : Int)] (0, 0) _ rfl (heap_alloc_new _ _) Tryz.underlying27 rfl Tryz.size25) rfl ?_
                exact ⟨congrArg Ending.returned (fault_eq hf.out), up_alloc _ _⟩
            have e45 : ((c.toNat : Int) == 45) = false := by simp; omega
            go_wp2_with fail
            refine (digit_any c _).mono ?_
            rintro e w' ⟨rfl, rfl⟩
            rw [hdc]
            go_wp2_with fail
            refine (wordByte_any c _).mono ?_
            rintro e w' ⟨rfl, rfl⟩
            cases hw : isW c with
            | true =>
              have hrl := run_len ((L s).drop o)
              rw [List.length_drop, L_len] at hrl
              have hEo : E = o + (((L s).drop o).takeWhile isW).length := by rw [HE.out]; omega
              have hEs : E ≤ s.size := by omega
              have hT3 : T = if 64 < (((L s).drop o).takeWhile isW).length then (14, o) else (0, 0) := by
                rw [HT.out, HD.out, next_word hdc b45 hw, word_fault, ← HD.out, List.length_drop, L_len, show s.size - (s.size - o) = o by omega]
              generalize (((L s).drop o).takeWhile isW).length = tl at hrl hEo hT3
              have hwE : IntKind.i64.wrap ((E : Int) - (o : Int)) = (E : Int) - (o : Int) := by rw [IntKind.wrap_i64]; omega
              by_cases h64 : 64 < tl
              · have d64 : decide ((E : Int) - (o : Int) > 64) = true := decide_eq_true (by omega)
                have hf : Hid (T = (14, o)) := Lib.hid (by rw [hT3, if_pos h64])
                clear HT HD HG HY' HE hT3 hEo hrl
                go_wp2
                refine bodyPost_ret (results_cell_row rfl _ _ w.heap.size 27 #[.int .i64 14, .int .i64 0, .int .i64 (o : Int)] (0, 0) _ rfl (heap_alloc_new _ _) Tryz.underlying27 rfl Tryz.size25) rfl ?_
                exact ⟨congrArg Ending.returned (fault_eq hf.out), up_alloc _ _⟩
              · have d64 : decide ((E : Int) - (o : Int) > 64) = false := decide_eq_false (by omega)
                have hf : Hid (T = (0, 0)) := Lib.hid (by rw [hT3, if_neg h64])
                clear HT HD HG HY' HE hT3 hEo hrl
                go_wp2
                refine bodyPost_ret (results_cell_row rfl _ _ w.heap.size 27 #[.int .i64 0, .int .i64 0, .int .i64 0] (0, 0) _ rfl (heap_alloc_new _ _) Tryz.underlying27 rfl Tryz.size25) rfl ?_
                exact ⟨congrArg Ending.returned (fault_eq hf.out), up_alloc _ _⟩
            | false =>
              by_cases b34 : c.toNat = 34
              · have e34 : ((c.toNat : Int) == 34) = true := by simp; omega
                have HST : Hid (s[o].toNat = 34) := Lib.hid (by rw [← HC.out]; exact b34)
                have hit : NxFault s.size (next ((L s).drop o)) = T := HT.out.symm
                go_wp2_with fail
                refine (stuckText_any s o _ h1 hs HST.out).mono ?_
                rintro e w2 ⟨rfl, hb⟩
                rw [hit]
                have hh : w2.heap[w.heap.size]? = some (.cells #[.int .i64 0, .int .i64 0, .int .i64 0] 27) := by
                  rw [hb.block _ (by simp)]; exact heap_alloc_new _ _
                have c0 : w2.cell? ⟨w.heap.size, 0, none⟩ = some (.int .i64 0) := by simp only [World.cell?, hh]; rfl
                have c1 : w2.cell? ⟨w.heap.size, 1, none⟩ = some (.int .i64 0) := by simp only [World.cell?, hh]; rfl
                have c2 : w2.cell? ⟨w.heap.size, 2, none⟩ = some (.int .i64 0) := by simp only [World.cell?, hh]; rfl
                have f0 : w2.frozen? ⟨w.heap.size, 0, none⟩ = false := by simp only [World.frozen?, hh]; rfl
                have f1 : w2.frozen? ⟨w.heap.size, 1, none⟩ = false := by simp only [World.frozen?, hh]; rfl
                have f2 : w2.frozen? ⟨w.heap.size, 2, none⟩ = false := by simp only [World.frozen?, hh]; rfl
                have HB := Lib.hid (three_below (x := .int .i64 (T.1 : Int)) (y := .int .i64 0) (z := .int .i64 (T.2 : Int)) ((up_alloc w (.cells #[.int .i64 0, .int .i64 0, .int .i64 0] 27)).trans (hb.mono (by simp))))
                have HH := Lib.hid (three_set (x := .int .i64 (T.1 : Int)) (y := .int .i64 0) (z := .int .i64 (T.2 : Int)) hh)
                unfold FaultV
                clear hh hb hit
                go_wp2
                refine bodyPost_ret (results_cell_row rfl _ _ w.heap.size 27 #[.int .i64 (T.1 : Int), .int .i64 0, .int .i64 (T.2 : Int)] (0, 0) _ rfl HH.out Tryz.underlying27 rfl Tryz.size25) rfl ?_
                exact ⟨rfl, HB.out⟩
              have e34 : ((c.toNat : Int) == 34) = false := by simp; omega
              have hT3 : T = if (c.toNat = 58 ∧ y.toNat = 45) ∨ (c.toNat = 33 ∧ y.toNat = 61) ∨ c.toNat = 40 ∨ c.toNat = 41 ∨ c.toNat = 44 ∨ c.toNat = 46 ∨ c.toNat = 61 ∨ c.toNat = 60 ∨ c.toNat = 62 then (0, 0) else (10, o) := by
                rw [HT.out, HD.out, next_sign hdc (fun h => b45 h.1) hw b34, sign_fault, ← HD.out, List.length_drop, L_len, show s.size - (s.size - o) = o by omega, ← HY'.out]
              have HT3 := Lib.hid hT3
              clear hT3 HT HD HG HY' HE
              by_cases b40 : c.toNat = 40
              · have hf : Hid (T = (0, 0)) := Lib.hid (by rw [HT3.out, if_pos (by omega)])
                clear HT3
                have e58 : ((c.toNat : Int) == 58) = false := by simp; omega
                have e33 : ((c.toNat : Int) == 33) = false := by simp; omega
                have e40 : ((c.toNat : Int) == 40) = true := by simp; omega
                have e41 : ((c.toNat : Int) == 41) = false := by simp; omega
                have e44 : ((c.toNat : Int) == 44) = false := by simp; omega
                have e46 : ((c.toNat : Int) == 46) = false := by simp; omega
                have e61 : ((c.toNat : Int) == 61) = false := by simp; omega
                have e60 : ((c.toNat : Int) == 60) = false := by simp; omega
                have e62 : ((c.toNat : Int) == 62) = false := by simp; omega
                clear b40
                go_wp2
                refine bodyPost_ret (results_cell_row rfl _ _ w.heap.size 27 #[.int .i64 0, .int .i64 0, .int .i64 0] (0, 0) _ rfl (heap_alloc_new _ _) Tryz.underlying27 rfl Tryz.size25) rfl ?_
                exact ⟨congrArg Ending.returned (fault_eq hf.out), up_alloc _ _⟩
              have e40 : ((c.toNat : Int) == 40) = false := by simp; omega
              by_cases b41 : c.toNat = 41
              · have hf : Hid (T = (0, 0)) := Lib.hid (by rw [HT3.out, if_pos (by omega)])
                clear HT3
                have e58 : ((c.toNat : Int) == 58) = false := by simp; omega
                have e33 : ((c.toNat : Int) == 33) = false := by simp; omega
                have e40 : ((c.toNat : Int) == 40) = false := by simp; omega
                have e41 : ((c.toNat : Int) == 41) = true := by simp; omega
                have e44 : ((c.toNat : Int) == 44) = false := by simp; omega
                have e46 : ((c.toNat : Int) == 46) = false := by simp; omega
                have e61 : ((c.toNat : Int) == 61) = false := by simp; omega
                have e60 : ((c.toNat : Int) == 60) = false := by simp; omega
                have e62 : ((c.toNat : Int) == 62) = false := by simp; omega
                clear b41
                go_wp2
                refine bodyPost_ret (results_cell_row rfl _ _ w.heap.size 27 #[.int .i64 0, .int .i64 0, .int .i64 0] (0, 0) _ rfl (heap_alloc_new _ _) Tryz.underlying27 rfl Tryz.size25) rfl ?_
                exact ⟨congrArg Ending.returned (fault_eq hf.out), up_alloc _ _⟩
              have e41 : ((c.toNat : Int) == 41) = false := by simp; omega
              by_cases b44 : c.toNat = 44
              · have hf : Hid (T = (0, 0)) := Lib.hid (by rw [HT3.out, if_pos (by omega)])
                clear HT3
                have e58 : ((c.toNat : Int) == 58) = false := by simp; omega
                have e33 : ((c.toNat : Int) == 33) = false := by simp; omega
                have e40 : ((c.toNat : Int) == 40) = false := by simp; omega
                have e41 : ((c.toNat : Int) == 41) = false := by simp; omega
                have e44 : ((c.toNat : Int) == 44) = true := by simp; omega
                have e46 : ((c.toNat : Int) == 46) = false := by simp; omega
                have e61 : ((c.toNat : Int) == 61) = false := by simp; omega
                have e60 : ((c.toNat : Int) == 60) = false := by simp; omega
                have e62 : ((c.toNat : Int) == 62) = false := by simp; omega
                clear b44
                go_wp2
                refine bodyPost_ret (results_cell_row rfl _ _ w.heap.size 27 #[.int .i64 0, .int .i64 0, .int .i64 0] (0, 0) _ rfl (heap_alloc_new _ _) Tryz.underlying27 rfl Tryz.size25) rfl ?_
                exact ⟨congrArg Ending.returned (fault_eq hf.out), up_alloc _ _⟩
              have e44 : ((c.toNat : Int) == 44) = false := by simp; omega
              by_cases b46 : c.toNat = 46
              · have hf : Hid (T = (0, 0)) := Lib.hid (by rw [HT3.out, if_pos (by omega)])
                clear HT3
                have e58 : ((c.toNat : Int) == 58) = false := by simp; omega
                have e33 : ((c.toNat : Int) == 33) = false := by simp; omega
                have e40 : ((c.toNat : Int) == 40) = false := by simp; omega
                have e41 : ((c.toNat : Int) == 41) = false := by simp; omega
                have e44 : ((c.toNat : Int) == 44) = false := by simp; omega
                have e46 : ((c.toNat : Int) == 46) = true := by simp; omega
                have e61 : ((c.toNat : Int) == 61) = false := by simp; omega
                have e60 : ((c.toNat : Int) == 60) = false := by simp; omega
                have e62 : ((c.toNat : Int) == 62) = false := by simp; omega
                clear b46
                go_wp2
                refine bodyPost_ret (results_cell_row rfl _ _ w.heap.size 27 #[.int .i64 0, .int .i64 0, .int .i64 0] (0, 0) _ rfl (heap_alloc_new _ _) Tryz.underlying27 rfl Tryz.size25) rfl ?_
                exact ⟨congrArg Ending.returned (fault_eq hf.out), up_alloc _ _⟩
              have e46 : ((c.toNat : Int) == 46) = false := by simp; omega
              by_cases b61 : c.toNat = 61
              · have hf : Hid (T = (0, 0)) := Lib.hid (by rw [HT3.out, if_pos (by omega)])
                clear HT3
                have e58 : ((c.toNat : Int) == 58) = false := by simp; omega
                have e33 : ((c.toNat : Int) == 33) = false := by simp; omega
                have e40 : ((c.toNat : Int) == 40) = false := by simp; omega
                have e41 : ((c.toNat : Int) == 41) = false := by simp; omega
                have e44 : ((c.toNat : Int) == 44) = false := by simp; omega
                have e46 : ((c.toNat : Int) == 46) = false := by simp; omega
                have e61 : ((c.toNat : Int) == 61) = true := by simp; omega
                have e60 : ((c.toNat : Int) == 60) = false := by simp; omega
                have e62 : ((c.toNat : Int) == 62) = false := by simp; omega
                clear b61
                go_wp2
                refine bodyPost_ret (results_cell_row rfl _ _ w.heap.size 27 #[.int .i64 0, .int .i64 0, .int .i64 0] (0, 0) _ rfl (heap_alloc_new _ _) Tryz.underlying27 rfl Tryz.size25) rfl ?_
                exact ⟨congrArg Ending.returned (fault_eq hf.out), up_alloc _ _⟩
              have e61 : ((c.toNat : Int) == 61) = false := by simp; omega
              by_cases b60 : c.toNat = 60
              · have hf : Hid (T = (0, 0)) := Lib.hid (by rw [HT3.out, if_pos (by omega)])
                clear HT3
                have e58 : ((c.toNat : Int) == 58) = false := by simp; omega
                have e33 : ((c.toNat : Int) == 33) = false := by simp; omega
                have e40 : ((c.toNat : Int) == 40) = false := by simp; omega
                have e41 : ((c.toNat : Int) == 41) = false := by simp; omega
                have e44 : ((c.toNat : Int) == 44) = false := by simp; omega
                have e46 : ((c.toNat : Int) == 46) = false := by simp; omega
                have e61 : ((c.toNat : Int) == 61) = false := by simp; omega
                have e60 : ((c.toNat : Int) == 60) = true := by simp; omega
                have e62 : ((c.toNat : Int) == 62) = false := by simp; omega
                clear b60
                go_wp2
                refine bodyPost_ret (results_cell_row rfl _ _ w.heap.size 27 #[.int .i64 0, .int .i64 0, .int .i64 0] (0, 0) _ rfl (heap_alloc_new _ _) Tryz.underlying27 rfl Tryz.size25) rfl ?_
                exact ⟨congrArg Ending.returned (fault_eq hf.out), up_alloc _ _⟩
              have e60 : ((c.toNat : Int) == 60) = false := by simp; omega
              by_cases b62 : c.toNat = 62
              · have hf : Hid (T = (0, 0)) := Lib.hid (by rw [HT3.out, if_pos (by omega)])
                clear HT3
                have e58 : ((c.toNat : Int) == 58) = false := by simp; omega
                have e33 : ((c.toNat : Int) == 33) = false := by simp; omega
                have e40 : ((c.toNat : Int) == 40) = false := by simp; omega
                have e41 : ((c.toNat : Int) == 41) = false := by simp; omega
                have e44 : ((c.toNat : Int) == 44) = false := by simp; omega
                have e46 : ((c.toNat : Int) == 46) = false := by simp; omega
                have e61 : ((c.toNat : Int) == 61) = false := by simp; omega
                have e60 : ((c.toNat : Int) == 60) = false := by simp; omega
                have e62 : ((c.toNat : Int) == 62) = true := by simp; omega
                clear b62
                go_wp2
                refine bodyPost_ret (results_cell_row rfl _ _ w.heap.size 27 #[.int .i64 0, .int .i64 0, .int .i64 0] (0, 0) _ rfl (heap_alloc_new _ _) Tryz.underlying27 rfl Tryz.size25) rfl ?_
                exact ⟨congrArg Ending.returned (fault_eq hf.out), up_alloc _ _⟩
              have e62 : ((c.toNat : Int) == 62) = false := by simp; omega
              by_cases b58 : c.toNat = 58 ∧ y.toNat = 45
              · have hf : Hid (T = (0, 0)) := Lib.hid (by rw [HT3.out, if_pos (by omega)])
                have e58 : ((c.toNat : Int) == 58) = true := by simp; omega
                have e33 : ((c.toNat : Int) == 33) = false := by simp; omega
                have ey : ((y.toNat : Int) == 45) = true := by simp; omega
                clear b58 HT3
                go_wp2
                refine bodyPost_ret (results_cell_row rfl _ _ w.heap.size 27 #[.int .i64 0, .int .i64 0, .int .i64 0] (0, 0) _ rfl (heap_alloc_new _ _) Tryz.underlying27 rfl Tryz.size25) rfl ?_
                exact ⟨congrArg Ending.returned (fault_eq hf.out), up_alloc _ _⟩
              by_cases b33 : c.toNat = 33 ∧ y.toNat = 61
              · have hf : Hid (T = (0, 0)) := Lib.hid (by rw [HT3.out, if_pos (by omega)])
                have e58 : ((c.toNat : Int) == 58) = false := by simp; omega
                have e33 : ((c.toNat : Int) == 33) = true := by simp; omega
                have ey : ((y.toNat : Int) == 61) = true := by simp; omega
                clear b33 HT3
                go_wp2
                refine bodyPost_ret (results_cell_row rfl _ _ w.heap.size 27 #[.int .i64 0, .int .i64 0, .int .i64 0] (0, 0) _ rfl (heap_alloc_new _ _) Tryz.underlying27 rfl Tryz.size25) rfl ?_
                exact ⟨congrArg Ending.returned (fault_eq hf.out), up_alloc _ _⟩
              have hf : Hid (T = (10, o)) := Lib.hid (by rw [HT3.out, if_neg (by omega)])
              clear HT3
              by_cases x58 : c.toNat = 58
              · have e58 : ((c.toNat : Int) == 58) = true := by simp; omega
                have e33 : ((c.toNat : Int) == 33) = false := by simp; omega
                have ey : ((y.toNat : Int) == 45) = false := by simp; omega
                clear x58
                go_wp2
                refine bodyPost_ret (results_cell_row rfl _ _ w.heap.size 27 #[.int .i64 10, .int .i64 0, .int .i64 (o : Int)] (0, 0) _ rfl (heap_alloc_new _ _) Tryz.underlying27 rfl Tryz.size25) rfl ?_
                exact ⟨congrArg Ending.returned (fault_eq hf.out), up_alloc _ _⟩
              have e58 : ((c.toNat : Int) == 58) = false := by simp; omega
              by_cases x33 : c.toNat = 33
              · have e33 : ((c.toNat : Int) == 33) = true := by simp; omega
                have ey : ((y.toNat : Int) == 61) = false := by simp; omega
                clear x33
                go_wp2
                refine bodyPost_ret (results_cell_row rfl _ _ w.heap.size 27 #[.int .i64 10, .int .i64 0, .int .i64 (o : Int)] (0, 0) _ rfl (heap_alloc_new _ _) Tryz.underlying27 rfl Tryz.size25) rfl ?_
                exact ⟨congrArg Ending.returned (fault_eq hf.out), up_alloc _ _⟩
              have e33 : ((c.toNat : Int) == 33) = false := by simp; omega
              go_wp2
              refine bodyPost_ret (results_cell_row rfl _ _ w.heap.size 27 #[.int .i64 10, .int .i64 0, .int .i64 (o : Int)] (0, 0) _ rfl (heap_alloc_new _ _) Tryz.underlying27 rfl Tryz.size25) rfl ?_
              exact ⟨congrArg Ending.returned (fault_eq hf.out), up_alloc _ _⟩
    · have e : o = s.size := by omega
      have hf : Hid (T = (0, 0)) := Lib.hid (by
        rw [hT2, show (L s).drop o = [] from List.drop_eq_nil_of_le (by rw [L_len]; omega)]; rfl)
      have k1 : ((o : Int) == (s.size : Int)) = true := by simp; omega
      clear e hT2
      go_wp2
      refine bodyPost_ret (results_cell_row rfl _ _ w.heap.size 27 #[.int .i64 0, .int .i64 0, .int .i64 0] (0, 0) _ rfl (heap_alloc_new _ _) Tryz.underlying27 rfl Tryz.size25) rfl ?_
      exact ⟨congrArg Ending.returned (fault_eq hf.out), up_alloc _ _⟩
end Go.Proofs.YtncdjkdpoinfaaaGreatDoor
/-
  The walks of lex's reader.peek and reader.run. Conditions: the text is at most 65536 bytes long; the reader lies in a block of its own.
-/
namespace Go.Proofs.YtncdjkdpoinfaaaGreatDoor
open Go.RowKit Go.Shelf Pl

/-- The reader's cells. -/
def Rd (w : World) (X : Nat) (s : ByteArray) (a : Nat) : Prop := w.cell? ⟨X, 0, none⟩ = some (.string s) ∧ w.cell? ⟨X, 1, none⟩ = some (.int .i64 (a : Int))
/-- The byte that stands k bytes on. -/
def pk (s : ByteArray) (i : Nat) : UInt8 := hd0 ((L s).drop i)
theorem pk_in {s : ByteArray} {i : Nat} (h : i < s.size) : pk s i = s[i] := by unfold pk; rw [L_drop h]; rfl
theorem pk_out {s : ByteArray} {i : Nat} (h : s.size ≤ i) : pk s i = 0 := by
  unfold pk
  rw [show (L s).drop i = [] from List.drop_eq_nil_of_le (by rw [L_len]; omega)]; rfl
theorem ret_u8 {a b : Int} (h : a = b) : Ending.returned (.int .u8 a) = .returned (.int .u8 b) := by rw [h]

set_option maxRecDepth 100000 in
set_option maxHeartbeats 3200000 in
theorem peek_any (s : ByteArray) (a k X : Nat) (w : World) (hs : s.size ≤ 65536) (ha : a ≤ s.size) (hk : k ≤ 3) (hR : Rd w X s a) :
    Calls Tryz.prog 61 #[.pointer (some ⟨X, 0, none⟩), .int .i64 (k : Int)] w fun e w' => e = .returned (.int .u8 ((pk s (a + k)).toNat : Int)) ∧ ∃ n, w' = w.drewN n := by
  obtain ⟨h0, h1⟩ := hR
  have hw : IntKind.i64.wrap ((a : Int) + (k : Int)) = (a : Int) + (k : Int) := by rw [IntKind.wrap_i64]; omega
  have j0 : (0 : Int) ≤ (a : Int) + (k : Int) := by omega
  by_cases hlt : a + k < s.size
  · have d : decide ((a : Int) + (k : Int) < (s.size : Int)) = true := decide_eq_true (by omega)
    have j1 : (a : Int) + (k : Int) < (s.size : Int) := by omega
    have hT : ((a : Int) + (k : Int)).toNat = a + k := by omega
    have HF : Hid ((s[a + k].toNat : Int) = ((pk s (a + k)).toNat : Int)) := Lib.hid (by rw [pk_in hlt])
    go_enter Tryz.func61, Tryz.ntmps61
    go_wp2_with fail
    go_quiet (fail)
    go_wp2_with fail
    go_quiet (fail)
    go_wp2
    go_ret
    exact ⟨ret_u8 HF.out, _, World.drewN_drewN _ _ _⟩
  · have d : decide ((a : Int) + (k : Int) < (s.size : Int)) = false := decide_eq_false (by omega)
    have HF : Hid ((0 : Int) = ((pk s (a + k)).toNat : Int)) := Lib.hid (by rw [pk_out (by omega)]; rfl)
    go_enter Tryz.func61, Tryz.ntmps61
    go_wp2_with fail
    go_quiet (fail)
    go_wp2
    go_ret
    exact ⟨ret_u8 HF.out, _, rfl⟩

set_option maxRecDepth 100000 in
set_option maxHeartbeats 3200000 in
theorem run_any (s : ByteArray) (a o X : Nat) (w : World) (hs : s.size ≤ 65536) (ho : o ≤ s.size) (hR : Rd w X s a) :
    Calls Tryz.prog 69 #[.pointer (some ⟨X, 0, none⟩), .int .i64 (o : Int)] w fun e w' => e = .returned (.int .i64 ((s.size - (((L s).drop o).dropWhile isW).length : Nat) : Int)) ∧ w = w' := by
  obtain ⟨h0, h1⟩ := hR
  obtain ⟨E, hE⟩ : ∃ E, E = s.size - (((L s).drop o).dropWhile isW).length := ⟨_, rfl⟩
  rw [← hE]
  have HE := Lib.hid hE
  clear hE
  go_enter Tryz.func69, Tryz.ntmps69
  go_wp2
  go_loop [1] (fun j => ∃ q : Nat, j = .int .i64 (q : Int) ∧ o ≤ q ∧ q ≤ s.size ∧ Hid (((L s).drop q).dropWhile isW = ((L s).drop o).dropWhile isW)) (fun j => s.size - (intOf j).toNat)
  case atStart => exact ⟨o, rfl, Nat.le_refl _, ho, Lib.hid rfl⟩
  case round =>
    obtain ⟨q, rfl, hoq, hq, HQ⟩ := hrel
    by_cases g1 : q < s.size
    · have j0 : (0 : Int) ≤ (q : Int) := by omega
      have j1 : (q : Int) < (s.size : Int) := by omega
      have j2 : decide ((q : Int) < (s.size : Int)) = true := decide_eq_true (by omega)
      have hwq : IntKind.i64.wrap ((q : Int) + 1) = (q : Int) + 1 := by rw [IntKind.wrap_i64]; omega
      obtain ⟨d, hd⟩ : ∃ d, d = s[q] := ⟨_, rfl⟩
      have HD := Lib.hid (L_drop g1)
      rw [← hd] at HD
      have HS := Lib.hid hd
      clear hd
      go_wp2_with fail
      rw [← HS.out]
      refine (isW_any d _).mono ?_
      rintro e w' ⟨rfl, rfl⟩
      cases hw : isW d with
      | true =>
        have HN : Hid (((L s).drop (q + 1)).dropWhile isW = ((L s).drop o).dropWhile isW) := Lib.hid (by
          have h5 := HQ.out
          rw [HD.out, List.dropWhile_cons_of_pos hw] at h5
          exact h5)
        clear HQ HD HS
        go_wp2
        go_round
        case rel => exact ⟨q + 1, by go_num, by omega, by omega, HN⟩
        case measure => simp only [intOf]; omega
      | false =>
        have hEq : q = E := by
          have h5 := HQ.out
          rw [HD.out, List.dropWhile_cons_of_neg (by simp [hw]), ← HD.out] at h5
          rw [HE.out, ← h5, List.length_drop, L_len]; omega
        have HEQ := Lib.hid hEq
        clear HQ HD HS hEq
        go_wp2
        go_ret
        exact ⟨ret_i64 (by rw [HEQ.out]), rfl⟩
    · have hEq : (s.size : Int) = (E : Int) := by
        have h5 := HQ.out
        rw [show (L s).drop q = [] from List.drop_eq_nil_of_le (by rw [L_len]; omega)] at h5
        rw [HE.out, ← h5]; simp
      have hqs : q = s.size := by omega
      have HEQ : Hid ((q : Int) = (E : Int)) := Lib.hid (by rw [hqs]; exact hEq)
      have HEQ2 := Lib.hid hEq
      have j2 : decide ((q : Int) < (s.size : Int)) = false := decide_eq_false (by omega)
      clear HQ hEq hqs
      go_wp2
      go_ret
      exact ⟨ret_i64 (by first | exact HEQ.out | exact HEQ2.out), rfl⟩
end Go.Proofs.YtncdjkdpoinfaaaGreatDoor
/-
  The walk of lex's reader.escape. Conditions: the text is at most 65536 bytes long; the reader lies in a block of its own, at a byte of its text.
-/
namespace Go.Proofs.YtncdjkdpoinfaaaGreatDoor
open Go.RowKit Go.Shelf Pl

theorem Rd.drewN {w : World} {X : Nat} {s : ByteArray} {a n : Nat} (h : Rd w X s a) : Rd (w.drewN n) X s a := h
theorem or_all : ∀ x y : Fin 16, bits BinOp.or IntKind.i64 (wrap64 ((x.val : Int) * 16)) (y.val : Int) % 256 = ((x.val * 16 + y.val : Nat) : Int) := by decide +kernel
theorem or_back {x y : Nat} (hx : x < 16) (hy : y < 16) : bits BinOp.or IntKind.i64 (wrap64 ((x : Int) * 16)) (y : Int) % 256 = ((x * 16 + y : Nat) : Int) := or_all ⟨x, hx⟩ ⟨y, hy⟩
theorem hexV_zero : hexV 0 = 16 := by decide
/-- An escape, by the bytes that stand there. -/
theorem esc_pk {s : ByteArray} {a : Nat} (ha : a < s.size) : esc ((L s).drop a) =
    if (pk s (a + 1)).toNat = 34 ∨ (pk s (a + 1)).toNat = 92 then some (pk s (a + 1), 2)
    else if (pk s (a + 1)).toNat = 110 then some (10, 2)
    else if (pk s (a + 1)).toNat = 116 then some (9, 2)
    else if (pk s (a + 1)).toNat = 114 then some (13, 2)
    else if (pk s (a + 1)).toNat = 120 then
      if hexV (pk s (a + 2)) < 16 ∧ hexV (pk s (a + 3)) < 16 then some (UInt8.ofNat (hexV (pk s (a + 2)) * 16 + hexV (pk s (a + 3))), 4) else none
    else none := by
  rw [L_drop ha]
  unfold pk
  by_cases h1 : a + 1 < s.size
  · rw [L_drop h1]
    simp only [hd0, esc]
    by_cases h2 : a + 2 < s.size
    · rw [L_drop (show a + 1 + 1 < s.size from h2)]
      by_cases h3 : a + 3 < s.size
      · rw [L_drop (show a + 1 + 1 + 1 < s.size from h3)]
        rfl
      · rw [show (L s).drop (a + 1 + 1 + 1) = [] from List.drop_eq_nil_of_le (by rw [L_len]; omega)]
        simp [hexV_zero]
    · rw [show (L s).drop (a + 1 + 1) = [] from List.drop_eq_nil_of_le (by rw [L_len]; omega)]
      simp [hexV_zero]
  · rw [show (L s).drop (a + 1) = [] from List.drop_eq_nil_of_le (by rw [L_len]; omega)]
    simp [hd0, esc]

set_option maxRecDepth 100000 in
set_option maxHeartbeats 3200000 in
theorem lexEscape_any (s : ByteArray) (a X : Nat) (w : World) (hs : s.size ≤ 65536) (ha : a < s.size) (hR : Rd w X s a) :
    Calls Tryz.prog 73 #[.pointer (some ⟨X, 0, none⟩)] w fun e w' => EscIs (esc ((L s).drop a)) e ∧ ∃ n, w' = w.drewN n := by
  obtain ⟨T, hT⟩ : ∃ T, T = esc ((L s).drop a) := ⟨_, rfl⟩
  rw [← hT]
  rw [esc_pk ha] at hT
  have HR := Lib.hid hR
  clear hR
  obtain ⟨b, hb⟩ : ∃ b, b = pk s (a + 1) := ⟨_, rfl⟩
  rw [← hb] at hT
  have HB := Lib.hid hb
  have HT := Lib.hid hT
  clear hT hb
  go_enter Tryz.func73, Tryz.ntmps73
  go_wp2_with fail
  refine (peek_any s a 1 X _ hs (by omega) (by omega) HR.out).mono ?_
  rintro e w' ⟨rfl, n, rfl⟩
  rw [← HB.out]
  by_cases b34 : b.toNat = 34
  · have e34 : ((b.toNat : Int) == 34) = true := by simp; omega
    have hf : Hid (T = some (b, 2)) := Lib.hid (by rw [HT.out, if_pos (.inl b34)])
    have hv : Hid (EscIs T (.returned (.tuple #[.int .u8 34, .int .i64 2]))) := Lib.hid (by rw [hf.out]; show _ = Ending.returned (.tuple #[.int .u8 (b.toNat : Int), .int .i64 2]); rw [b34]; rfl)
    clear HT hf b34
    go_wp2
    go_ret2
    exact ⟨hv.out, n, rfl⟩
  have e34 : ((b.toNat : Int) == 34) = false := by simp; omega
  by_cases b92 : b.toNat = 92
  · have e92 : ((b.toNat : Int) == 92) = true := by simp; omega
    have hf : Hid (T = some (b, 2)) := Lib.hid (by rw [HT.out, if_pos (.inr b92)])
    have hv : Hid (EscIs T (.returned (.tuple #[.int .u8 92, .int .i64 2]))) := Lib.hid (by rw [hf.out]; show _ = Ending.returned (.tuple #[.int .u8 (b.toNat : Int), .int .i64 2]); rw [b92]; rfl)
    clear HT hf b92
    go_wp2
    go_ret2
    exact ⟨hv.out, n, rfl⟩
  have e92 : ((b.toNat : Int) == 92) = false := by simp; omega
  rw [if_neg (by omega)] at HT
  by_cases b110 : b.toNat = 110
  · have e110 : ((b.toNat : Int) == 110) = true := by simp; omega
    have hv : Hid (EscIs T (.returned (.tuple #[.int .u8 10, .int .i64 2]))) := Lib.hid (by rw [HT.out, if_pos b110]; rfl)
    clear HT b110
    go_wp2
    go_ret2
    exact ⟨hv.out, n, rfl⟩
  have e110 : ((b.toNat : Int) == 110) = false := by simp; omega
  rw [if_neg b110] at HT
  by_cases b116 : b.toNat = 116
  · have e116 : ((b.toNat : Int) == 116) = true := by simp; omega
    have hv : Hid (EscIs T (.returned (.tuple #[.int .u8 9, .int .i64 2]))) := Lib.hid (by rw [HT.out, if_pos b116]; rfl)
    clear HT b116
    go_wp2
    go_ret2
    exact ⟨hv.out, n, rfl⟩
  have e116 : ((b.toNat : Int) == 116) = false := by simp; omega
  rw [if_neg b116] at HT
  by_cases b114 : b.toNat = 114
  · have e114 : ((b.toNat : Int) == 114) = true := by simp; omega
    have hv : Hid (EscIs T (.returned (.tuple #[.int .u8 13, .int .i64 2]))) := Lib.hid (by rw [HT.out, if_pos b114]; rfl)
    clear HT b114
    go_wp2
    go_ret2
    exact ⟨hv.out, n, rfl⟩
  have e114 : ((b.toNat : Int) == 114) = false := by simp; omega
  rw [if_neg b114] at HT
  by_cases b120 : b.toNat = 120
  · have e120 : ((b.toNat : Int) == 120) = true := by simp; omega
    rw [if_pos b120] at HT
    clear b120
    go_wp2_with fail
    refine (peek_any s a 2 X _ hs (by omega) (by omega) HR.out.drewN).mono ?_
    rintro e w' ⟨rfl, n2, rfl⟩
    go_wp2_with fail
    refine (hex_any _ _).mono ?_
    rintro e w' ⟨rfl, rfl⟩
    go_wp2_with fail
    refine (peek_any s a 3 X _ hs (by omega) (by omega) HR.out.drewN).mono ?_
    rintro e w' ⟨rfl, n3, rfl⟩
    go_wp2_with fail
    refine (hex_any _ _).mono ?_
    rintro e w' ⟨rfl, rfl⟩
    by_cases x1 : hexV (pk s (a + 2)) < 16
    · have j1 : decide (hexI (pk s (a + 2)) ≥ 0) = true := by rw [hexI_ge]; exact decide_eq_true x1
      by_cases x2 : hexV (pk s (a + 3)) < 16
      · have j2 : decide (hexI (pk s (a + 3)) ≥ 0) = true := by rw [hexI_ge]; exact decide_eq_true x2
        have hv : Hid (EscIs T (.returned (.tuple #[.int .u8 (bits BinOp.or IntKind.i64 (wrap64 (hexI (pk s (a + 2)) * 16)) (hexI (pk s (a + 3))) % 256), .int .i64 4]))) := Lib.hid (by
          rw [HT.out, if_pos ⟨x1, x2⟩, show hexI (pk s (a + 2)) = (hexV (pk s (a + 2)) : Int) by unfold hexI; rw [if_pos x1], show hexI (pk s (a + 3)) = (hexV (pk s (a + 3)) : Int) by unfold hexI; rw [if_pos x2],
            or_back x1 x2]
          show _ = Ending.returned (.tuple #[.int .u8 ((UInt8.ofNat (hexV (pk s (a + 2)) * 16 + hexV (pk s (a + 3)))).toNat : Int), .int .i64 4])
          rw [ofNat_back (by omega)])
        clear HT
        go_wp2
        go_ret2
        exact ⟨hv.out, _, rfl⟩
      · have j2 : decide (hexI (pk s (a + 3)) ≥ 0) = false := by rw [hexI_ge]; exact decide_eq_false x2
        have hv : Hid (EscIs T (.returned (.tuple #[.int .u8 0, .int .i64 0]))) := Lib.hid (by rw [HT.out, if_neg (fun h => x2 h.2)]; rfl)
        clear HT
        go_wp2
        go_ret2
        exact ⟨hv.out, _, rfl⟩
    · have j1 : decide (hexI (pk s (a + 2)) ≥ 0) = false := by rw [hexI_ge]; exact decide_eq_false x1
      have hv : Hid (EscIs T (.returned (.tuple #[.int .u8 0, .int .i64 0]))) := Lib.hid (by rw [HT.out, if_neg (fun h => x1 h.1)]; rfl)
      clear HT
      go_wp2
      go_ret2
      exact ⟨hv.out, _, rfl⟩
  have e120 : ((b.toNat : Int) == 120) = false := by simp; omega
  have hv : Hid (EscIs T (.returned (.tuple #[.int .u8 0, .int .i64 0]))) := Lib.hid (by rw [HT.out, if_neg b120]; rfl)
  clear HT
  go_wp2
  go_ret2
  exact ⟨hv.out, n, rfl⟩
end Go.Proofs.YtncdjkdpoinfaaaGreatDoor
/-
  Two results that lie in cells. No condition beyond those that each lemma states.
-/
namespace Go.Proofs.YtncdjkdpoinfaaaGreatDoor
open Go.RowKit Go.Shelf Pl

theorem results_two_rows {P : Program} {fn : Func} {p u : Tmp} {ty tz : TypeId} (h : fn.results = #[.cell p ty, .cell u tz]) (tmps : Array Value) (w : World) (g g2 : Nat) (t t2 : TypeId) (cs cs2 : Array Value) (fr fr2 : Nat × Nat) (d d2 : TypeDesc)
    (hp : tmps.getD p undef = .pointer (some ⟨g, 0, none⟩)) (hg : w.heap[g]? = some (.cells cs t fr))
    (hu : P.underlying ty = some d) (hd : (match d with | .struct _ | .array _ _ => true | _ => false) = true) (hi : (P.info? ty).map (·.size) = some cs.size)
    (hp2 : tmps.getD u undef = .pointer (some ⟨g2, 0, none⟩)) (hg2 : w.heap[g2]? = some (.cells cs2 t2 fr2))
    (hu2 : P.underlying tz = some d2) (hd2 : (match d2 with | .struct _ | .array _ _ => true | _ => false) = true) (hi2 : (P.info? tz).map (·.size) = some cs2.size) :
    (results fn tmps).run P w = .ok (.tuple #[.agg cs, .agg cs2]) w := by
  have hp' : tmps[p]?.getD undef = .pointer (some ⟨g, 0, none⟩) := by simpa using hp
  have hp2' : tmps[u]?.getD undef = .pointer (some ⟨g2, 0, none⟩) := by simpa using hp2
  simp [results, h, hp', hp2', asAddr, run_loadVar_row w g t ty cs fr d hg hu hd hi, run_loadVar_row w g2 t2 tz cs2 fr2 d2 hg2 hu2 hd2 hi2]
end Go.Proofs.YtncdjkdpoinfaaaGreatDoor
/-
  The walk of lex's reader.fault. No condition.
-/
namespace Go.Proofs.YtncdjkdpoinfaaaGreatDoor
open Go.RowKit Go.Shelf Pl

theorem Tryz.size32 : (Tryz.prog.info? 62).map (·.size) = some 6 := by kernel_rfl
/-- A token as a value. -/
def TokV (kind : Nat) (text : ByteArray) (int : Int) (op off fin : Nat) : Value := .agg #[.int .i64 (kind : Int), .string text, .int .i64 int, .int .i64 (op : Int), .int .i64 (off : Int), .int .i64 (fin : Int)]
def noS : ByteArray := ⟨#[]⟩
theorem fault_any (X : Nat) (c o : Nat) (w : World) :
    Calls Tryz.prog 59 #[.pointer (some ⟨X, 0, none⟩), .int .i64 (c : Int), .int .i64 (o : Int)] w fun e w' => e = .returned (.tuple #[TokV 0 noS 0 0 0 0, FaultV c o]) ∧ Below w.heap.size w w' := by
  go_enter Tryz.func59, Tryz.ntmps59
  go_wp2
  have hg : ((w.alloc (.cells #[.int .i64 0, .string noS, .int .i64 0, .int .i64 0, .int .i64 0, .int .i64 0] 62)).alloc (.cells #[.int .i64 (c : Int), .int .i64 0, .int .i64 (o : Int)] 27)).heap[w.heap.size]? = some (.cells #[.int .i64 0, .string noS, .int .i64 0, .int .i64 0, .int .i64 0, .int .i64 0] 62) := by
    rw [Below.heap_alloc _ _ _ (by simp)]; exact heap_alloc_new _ _
  have hg2 : ((w.alloc (.cells #[.int .i64 0, .string noS, .int .i64 0, .int .i64 0, .int .i64 0, .int .i64 0] 62)).alloc (.cells #[.int .i64 (c : Int), .int .i64 0, .int .i64 (o : Int)] 27)).heap[w.heap.size + 1]? = some (.cells #[.int .i64 (c : Int), .int .i64 0, .int .i64 (o : Int)] 27) := by
    have := heap_alloc_new (w.alloc (.cells #[.int .i64 0, .string noS, .int .i64 0, .int .i64 0, .int .i64 0, .int .i64 0] 62)) (.cells #[.int .i64 (c : Int), .int .i64 0, .int .i64 (o : Int)] 27)
    simpa using this
  refine bodyPost_ret (results_two_rows rfl _ _ w.heap.size (w.heap.size + 1) 62 27 #[.int .i64 0, .string noS, .int .i64 0, .int .i64 0, .int .i64 0, .int .i64 0] #[.int .i64 (c : Int), .int .i64 0, .int .i64 (o : Int)] (0, 0) (0, 0) _ _ rfl hg Tryz.underlying62 rfl Tryz.size32 rfl hg2 Tryz.underlying27 rfl Tryz.size25) rfl ?_
  exact ⟨rfl, (up_alloc w _).alloc (by simp) _⟩
end Go.Proofs.YtncdjkdpoinfaaaGreatDoor
/-
  The reader's block, and worlds that differ in it alone. No condition beyond those that each lemma states.
-/
namespace Go.Proofs.YtncdjkdpoinfaaaGreatDoor
open Go.RowKit Go.Shelf Pl

/-- Of what there was, block X alone may have turned. -/
structure Bes (X : Nat) (w w' : World) : Prop where
  os : w'.os = w.os
  tape : w'.tape = w.tape
  output : w'.output = w.output
  size : w.heap.size ≤ w'.heap.size
  block : ∀ k, k < w.heap.size → k ≠ X → w'.heap[k]? = w.heap[k]?
section
variable {X B : Nat} {w w' w2 : World}
theorem Bes.refl (X : Nat) (w : World) : Bes X w w := ⟨rfl, rfl, rfl, Nat.le_refl _, fun _ _ _ => rfl⟩
theorem Bes.trans (h : Bes X w w') (k : Bes X w' w2) : Bes X w w2 :=
  ⟨k.os.trans h.os, k.tape.trans h.tape, k.output.trans h.output, Nat.le_trans h.size k.size, fun i hi hx => (k.block i (Nat.lt_of_lt_of_le hi h.size) hx).trans (h.block i hi hx)⟩
theorem Bes.of (h : Below w.heap.size w w') : Bes X w w' := ⟨h.os, h.tape, h.output, h.size, fun k hk _ => h.block k hk⟩
theorem Bes.below (h : Bes X w w') (hB : B ≤ X) (hw : B ≤ w.heap.size) : Below B w w' := ⟨h.os, h.tape, h.output, h.size, fun k hk => h.block k (by omega) (by omega)⟩
theorem Bes.up (h : Bes X w w') (hX : w.heap.size ≤ X) : Below w.heap.size w w' := h.below hX (Nat.le_refl _)
theorem Bes.drewN (h : Bes X w w') (n : Nat) : Bes X w (w'.drewN n) := ⟨h.os, h.tape, h.output, h.size, h.block⟩
theorem Bes.drew (h : Bes X w w') : Bes X w w'.drew := ⟨h.os, h.tape, h.output, h.size, h.block⟩
theorem Bes.alloc (h : Bes X w w') (o : Obj) : Bes X w (w'.alloc o) :=
  h.trans ⟨rfl, rfl, rfl, by simp, fun k hk _ => Below.heap_alloc _ _ _ hk⟩
theorem Bes.set (h : Bes X w w') {p : Addr} (hp : p.block = X ∨ w.heap.size ≤ p.block) (u : Value) : Bes X w (w'.setCell p u) :=
  ⟨h.os, h.tape, h.output, by simp [World.setCell]; exact h.size, fun k hk hx => (Below.heap_setCell _ _ _ _ (by omega)).trans (h.block k hk hx)⟩
end

/-- The reader's block. -/
def RdB (w : World) (X : Nat) (s : ByteArray) (a : Nat) : Prop := w.heap[X]? = some (.cells #[.string s, .int .i64 (a : Int)] 107)
section
variable {w w' : World} {X : Nat} {s : ByteArray} {a q B : Nat}
theorem RdB.rd (h : RdB w X s a) : Rd w X s a := by
  unfold RdB at h
  exact ⟨by simp only [World.cell?, h]; rfl, by simp only [World.cell?, h]; rfl⟩
theorem RdB.froz (h : RdB w X s a) : w.frozen? ⟨X, 1, none⟩ = false := by
  unfold RdB at h
  simp only [World.frozen?, h]; rfl
theorem RdB.lt (h : RdB w X s a) : X < w.heap.size := (Array.getElem?_eq_some_iff.1 h).1
theorem RdB.drewN (h : RdB w X s a) (n : Nat) : RdB (w.drewN n) X s a := h
theorem RdB.below (h : RdB w X s a) (hb : Below w.heap.size w w') : RdB w' X s a := by
  unfold RdB
  rw [hb.block _ h.lt]; exact h
theorem RdB.alloc (h : RdB w X s a) (o : Obj) : RdB (w.alloc o) X s a := h.below (up_alloc w o)
theorem RdB.set (h : RdB w X s a) : RdB (w.setCell ⟨X, 1, none⟩ (.int .i64 (q : Int))) X s q := by
  unfold RdB at h ⊢
  simp [World.setCell, Array.getElem?_modify, h]
theorem RdB.besY {Y : Nat} (h : RdB w X s a) (hb : Bes Y w w') (hY : X ≠ Y) : RdB w' X s a := by
  unfold RdB
  rw [hb.block _ h.lt hY]; exact h
/-- Where the reader stands, out of its world. -/
def atOf (w : World) (X : Nat) : Nat := match w.cell? ⟨X, 1, none⟩ with | some (.int _ v) => v.toNat | _ => 0
theorem RdB.atOf (h : RdB w X s a) : atOf w X = a := by
  unfold YtncdjkdpoinfaaaGreatDoor.atOf
  rw [h.rd.2]; rfl
end
theorem two_heap {w1 : World} {n : Nat} (o p : Obj) (h : w1.heap.size = n) : ((w1.alloc o).alloc p).heap[n]? = some o ∧ ((w1.alloc o).alloc p).heap[n + 1]? = some p := by
  subst h
  constructor
  · rw [Below.heap_alloc _ _ _ (by simp)]; exact heap_alloc_new _ _
  · have := heap_alloc_new (w1.alloc o) p
    simpa using this
theorem size_set (w : World) (a : Addr) (v : Value) : (w.setCell a v).heap.size = w.heap.size := by simp [World.setCell]
/-- The cells of a token's block, of a fault's block. -/
theorem row6 {w : World} {B : Nat} {a b c d e f : Value} (h : w.heap[B]? = some (.cells #[a, b, c, d, e, f] 62)) :
    w.cell? ⟨B, 0, none⟩ = some a ∧ w.cell? ⟨B, 1, none⟩ = some b ∧ w.cell? ⟨B, 2, none⟩ = some c ∧ w.cell? ⟨B, 3, none⟩ = some d ∧ w.cell? ⟨B, 4, none⟩ = some e ∧ w.cell? ⟨B, 5, none⟩ = some f ∧
    w.frozen? ⟨B, 0, none⟩ = false ∧ w.frozen? ⟨B, 1, none⟩ = false ∧ w.frozen? ⟨B, 2, none⟩ = false ∧ w.frozen? ⟨B, 3, none⟩ = false ∧ w.frozen? ⟨B, 4, none⟩ = false ∧ w.frozen? ⟨B, 5, none⟩ = false := by
  refine ⟨?_, ?_, ?_, ?_, ?_, ?_, ?_, ?_, ?_, ?_, ?_, ?_⟩ <;> simp only [World.cell?, World.frozen?, h] <;> rfl
theorem row3 {w : World} {B : Nat} {a b c : Value} (h : w.heap[B]? = some (.cells #[a, b, c] 27)) :
    w.cell? ⟨B, 0, none⟩ = some a ∧ w.cell? ⟨B, 1, none⟩ = some b ∧ w.cell? ⟨B, 2, none⟩ = some c ∧
    w.frozen? ⟨B, 0, none⟩ = false ∧ w.frozen? ⟨B, 1, none⟩ = false ∧ w.frozen? ⟨B, 2, none⟩ = false := by
  refine ⟨?_, ?_, ?_, ?_, ?_, ?_⟩ <;> simp only [World.cell?, World.frozen?, h] <;> rfl
/-- A token and a fault, stored one cell after the other. -/
def nine (w : World) (B C : Nat) (x0 x1 x2 x3 x4 x5 y0 y1 y2 : Value) : World :=
  ((((((((w.setCell ⟨B, 0, none⟩ x0).setCell ⟨B, 1, none⟩ x1).setCell ⟨B, 2, none⟩ x2).setCell ⟨B, 3, none⟩ x3).setCell ⟨B, 4, none⟩ x4).setCell ⟨B, 5, none⟩ x5).setCell ⟨C, 0, none⟩ y0).setCell ⟨C, 1, none⟩ y1).setCell ⟨C, 2, none⟩ y2
theorem nine_set {w : World} {B : Nat} {a b c d e f g h i x0 x1 x2 x3 x4 x5 y0 y1 y2 : Value} (q1 : w.heap[B]? = some (.cells #[a, b, c, d, e, f] 62)) (q2 : w.heap[B + 1]? = some (.cells #[g, h, i] 27)) :
    (nine w B (B + 1) x0 x1 x2 x3 x4 x5 y0 y1 y2).heap[B]? = some (.cells #[x0, x1, x2, x3, x4, x5] 62) ∧ (nine w B (B + 1) x0 x1 x2 x3 x4 x5 y0 y1 y2).heap[B + 1]? = some (.cells #[y0, y1, y2] 27) := by
  constructor <;> simp [nine, World.setCell, Array.getElem?_modify, q1, q2]
theorem nine_bes {X B C : Nat} {w w' : World} {x0 x1 x2 x3 x4 x5 y0 y1 y2 : Value} (h : Bes X w w') (hB : w.heap.size ≤ B) (hC : w.heap.size ≤ C) : Bes X w (nine w' B C x0 x1 x2 x3 x4 x5 y0 y1 y2) :=
  ((((((((h.set (.inr hB) _).set (.inr hB) _).set (.inr hB) _).set (.inr hB) _).set (.inr hB) _).set (.inr hB) _).set (.inr hC) _).set (.inr hC) _).set (.inr hC) _
theorem nine_rd {X B C a : Nat} {s : ByteArray} {w : World} {x0 x1 x2 x3 x4 x5 y0 y1 y2 : Value} (h : RdB w X s a) (hB : X ≠ B) (hC : X ≠ C) : RdB (nine w B C x0 x1 x2 x3 x4 x5 y0 y1 y2) X s a := by
  unfold RdB at h ⊢
  simp [nine, World.setCell, Array.getElem?_modify, h, Ne.symm hB, Ne.symm hC]

/-- What reading a token answers, and where the reader stands. -/
def TokIs (s : ByteArray) (X o : Nat) (w : World) (N : Nx) (e : Ending) (w' : World) : Prop :=
  (match N with
  | .fault code a => e = .returned (.tuple #[TokV 0 noS 0 0 0 0, FaultV code (s.size - a.length)])
  | .tok kind op text int rest => ∃ t : ByteArray, L t = text ∧ e = .returned (.tuple #[TokV kind t int op o (s.size - rest.length), FaultV 0 0]) ∧ RdB w' X s (s.size - rest.length)
  | .fin => e = .returned (.tuple #[TokV 0 noS 0 0 s.size s.size, FaultV 0 0])) ∧ Bes X w w'
theorem tok_end {s : ByteArray} {X o E kind op : Nat} {w W : World} {N : Nx} {text rest : List UInt8} {int : Int} {t : ByteArray} (hN : N = .tok kind op text int rest) (ht : L t = text) (hE : s.size - rest.length = E) (hr : RdB W X s E) (hb : Bes X w W) :
    TokIs s X o w N (.returned (.tuple #[TokV kind t int op o E, FaultV 0 0])) W := by
  rw [hN]
  exact ⟨⟨t, ht, by rw [hE], by rw [hE]; exact hr⟩, hb⟩
theorem fault_end {s : ByteArray} {X o c p : Nat} {w W : World} {N : Nx} {a : List UInt8} (hN : N = .fault c a) (hp : s.size - a.length = p) (hb : Bes X w W) :
    TokIs s X o w N (.returned (.tuple #[TokV 0 noS 0 0 0 0, FaultV c p])) W := by
  rw [hN]
  exact ⟨by rw [← hp], hb⟩
end Go.Proofs.YtncdjkdpoinfaaaGreatDoor
