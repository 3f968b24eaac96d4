/-
  The walk of edicttop.stuck. Conditions: the text is at most 65536 bytes long; the place lies in it.
-/
import Derived.Test.YthidnjnaifcfoaaDoorW6
import Derived.Deep.CutBlock
namespace Go.Proofs.YthidnjnaifcfoaaDoor
open Go.RowKit Go.Shelf Pl
def hd0 : List UInt8 → UInt8
  | [] => 0
  | a :: _ => a
theorem pre_one (p : Nat) (c : UInt8) (g : List UInt8) : pre [p] (c :: g) = decide (c.toNat = p) := by
  simp [pre]
theorem pre_two (p q : Nat) (hq : q ≠ 0) (c : UInt8) (g : List UInt8) : pre [p, q] (c :: g) = (decide (c.toNat = p) && decide ((hd0 g).toNat = q)) := by
  cases g with
  | nil => simp [pre, hd0]; intro _ h; exact hq h.symm
  | cons a g => rw [Bool.eq_iff_iff]; simp [pre, hd0]; exact fun _ => (decide_eq_true_iff (p := a.toNat = q)).symm
theorem sign_fault {c : UInt8} {g : List UInt8} (n : Nat) : NxFault n (nextSign (c :: g)) = if (c.toNat = 58 ∧ (hd0 g).toNat = 45) ∨ (c.toNat = 33 ∧ (hd0 g).toNat = 61) ∨ c.toNat = 40 ∨ c.toNat = 41 ∨ c.toNat = 44 ∨ c.toNat = 46 ∨ c.toNat = 61 ∨ c.toNat = 60 ∨ c.toNat = 62 then (0, 0) else (10, n - (c :: g).length) := by
  unfold nextSign
  split
  · rename_i p kind op h
    have h1 := List.mem_of_find?_eq_some h
    have h2 := List.find?_some h
    simp only at h2
    rw [if_pos]
    · rfl
    · simp only [signs, List.mem_cons, Prod.mk.injEq, List.not_mem_nil, or_false] at h1
      rcases h1 with h1 | h1 | h1 | h1 | h1 | h1 | h1 | h1 | h1 | h1 | h1
      all_goals
        rw [h1.1] at h2
        first
          | (rw [pre_two _ _ (by omega)] at h2; simp at h2; omega)
          | (rw [pre_one] at h2; simp at h2; omega)
  · rename_i h
    rw [if_neg]
    · rfl
    · intro hc
      have h2 : ∀ x ∈ signs, pre x.1 (c :: g) = false := fun x hx => by
        have := List.find?_eq_none.1 h x hx
        simpa using this
      have a1 := h2 ([58, 45], 9, 0) (by simp [signs])
      have a2 := h2 ([33, 61], 11, 2) (by simp [signs])
      have a3 := h2 ([60], 11, 3) (by simp [signs])
      have a4 := h2 ([62], 11, 5) (by simp [signs])
      have a5 := h2 ([61], 11, 1) (by simp [signs])
      have a6 := h2 ([40], 5, 0) (by simp [signs])
      have a7 := h2 ([41], 6, 0) (by simp [signs])
      have a8 := h2 ([44], 7, 0) (by simp [signs])
      have a9 := h2 ([46], 8, 0) (by simp [signs])
      simp only [pre_one, pre_two _ _ (show (45 : Nat) ≠ 0 by omega), pre_two _ _ (show (61 : Nat) ≠ 0 by omega)] at a1 a2 a3 a4 a5 a6 a7 a8 a9
      simp at a1 a2 a3 a4 a5 a6 a7 a8 a9
      omega
theorem three_set {w' : World} {B : Nat} {fr : Nat × Nat} {a b c x y z : Value} (h : w'.heap[B]? = some (.cells #[a, b, c] 25 fr)) :
    (((w'.setCell ⟨B, 0, none⟩ x).setCell ⟨B, 1, none⟩ y).setCell ⟨B, 2, none⟩ z).heap[B]? = some (.cells #[x, y, z] 25 fr) := by
  simp [World.setCell, Array.getElem?_modify, h]
theorem three_below {w w' : World} {x y z : Value} (h : Below w.heap.size w w') :
    Below w.heap.size w (((w'.setCell ⟨w.heap.size, 0, none⟩ x).setCell ⟨w.heap.size, 1, none⟩ y).setCell ⟨w.heap.size, 2, none⟩ z) :=
  ((h.setCell (Nat.le_refl _) _).setCell (Nat.le_refl _) _).setCell (Nat.le_refl _) _

theorem hd_isD (g : List UInt8) : hdP isD g = isD (hd0 g) := by cases g <;> rfl
theorem next_word {c : UInt8} {g : List UInt8} (h1 : isD c = false) (h2 : c.toNat ≠ 45) (h : isW c = true) : next (c :: g) = nextWord (c :: g) := by
  simp only [next]
  rw [if_neg (by simp [h1]), if_neg (by omega), if_pos h]
theorem next_sign {c : UInt8} {g : List UInt8} (h1 : isD c = false) (h2 : ¬ (c.toNat = 45 ∧ hdP isD g = true)) (h3 : isW c = false) (h4 : c.toNat ≠ 34) : next (c :: g) = nextSign (c :: g) := by
  simp only [next]
  rw [if_neg (by simp [h1]), if_neg h2, if_neg (by simp [h3]), if_neg h4]
theorem word_fault {r : List UInt8} (n : Nat) : NxFault n (nextWord r) = if 64 < (r.takeWhile isW).length then (14, n - r.length) else (0, 0) := by
  unfold nextWord
  by_cases h : 64 < (r.takeWhile isW).length
  · rw [if_pos h, if_pos h]; rfl
  · rw [if_neg h, if_neg h]
    repeat' split
    all_goals rfl
theorem run_len (l : List UInt8) : l.length = (l.takeWhile isW).length + (l.dropWhile isW).length := by
  have h := congrArg List.length (while_split isW l)
  rw [List.length_append] at h
  exact h

/-- What no token can stand for, behind a gap. -/
def StFault (n : Nat) (G : List UInt8 ⊕ List UInt8) : Nat × Nat :=
  match G with
  | .inr st => (16, n - st.length)
  | .inl r => NxFault n (next r)

set_option maxRecDepth 100000 in
set_option maxHeartbeats 3200000 in
theorem stuck_any (s : ByteArray) (p : Nat) (w : World) (hp : p ≤ s.size) (hs : s.size ≤ 65536) :
    Calls Tryd.prog 10 #[.string s, .int .i64 (p : Int)] w fun e w' => e = .returned (FaultV (StFault s.size (gap .out ((L s).drop p))).1 (StFault s.size (gap .out ((L s).drop p))).2) ∧ Below w.heap.size w w' := by
  obtain ⟨T, hT⟩ : ∃ T, T = StFault s.size (gap .out ((L s).drop p)) := ⟨_, rfl⟩
  rw [← hT]
  go_enter Tryd.func10, Tryd.ntmps10
  go_wp2_with fail
  refine (skip_any s p _ hp hs).mono ?_
  rintro e w' ⟨he, rfl⟩
  cases hG : gap .out ((L s).drop p) with
  | inr st =>
    rw [hG] at he hT
    have he2 : e = .returned (.tuple #[.int .i64 ((s.size - st.length : Nat) : Int), .int .i64 ((s.size - st.length : Nat) : Int)]) := he
    subst he2
    have HF : Hid (T = (16, s.size - st.length)) := Lib.hid hT
    generalize s.size - st.length = o at HF ⊢
    have k0 : decide ((o : Int) ≥ 0) = true := decide_eq_true (by omega)
    clear hT he
    go_wp2
    refine bodyPost_ret (results_cell_row rfl _ _ w.heap.size 25 #[.int .i64 16, .int .i64 0, .int .i64 (o : Int)] (0, 0) _ rfl (heap_alloc_new _ _) Tryd.underlying25 rfl Tryd.size25) rfl ?_
    exact ⟨congrArg Ending.returned (fault_eq HF.out), up_alloc _ _⟩
  | inl r =>
    rw [hG] at he hT
    have he2 : e = .returned (.tuple #[.int .i64 ((s.size - r.length : Nat) : Int), .int .i64 (-1)]) := he
    subst he2
    have hgp := gap_place hG
    rw [L_len] at hgp
    obtain ⟨o, ho⟩ : ∃ o, o = s.size - r.length := ⟨_, rfl⟩
    rw [← ho] at hgp ⊢
    have hos : o ≤ s.size := by omega
    have hT2 : T = NxFault s.size (next ((L s).drop o)) := by rw [hT, hgp.1]; rfl
    clear hT he hG hgp ho
    by_cases h1 : o < s.size
    · have k1 : ((o : Int) == (s.size : Int)) = false := by simp; omega
      have k2 : (o : Int) < (s.size : Int) := by omega
      have k3 : (0 : Int) ≤ (o : Int) := by omega
      have hw1 : IntKind.i64.wrap ((o : Int) + 1) = (o : Int) + 1 := by rw [IntKind.wrap_i64]; omega
      obtain ⟨c, hc⟩ : ∃ c, c = s[o] := ⟨_, rfl⟩
      obtain ⟨y, hy⟩ : ∃ y, y = hd0 ((L s).drop (o + 1)) := ⟨_, rfl⟩
      obtain ⟨E, hE⟩ : ∃ E, E = s.size - (((L s).drop o).dropWhile isW).length := ⟨_, rfl⟩
      have HC := Lib.hid hc
      have HY := Lib.hid hy
      have HE := Lib.hid hE
      have HT := Lib.hid hT2
      clear hc hy hE hT2
      go_upto_region 8 with fail
      rw [← HC.out]
      go_upto_if 32 with fail
      go_cut [8] from 33 to 36 (fun k wx => wx = w.alloc (.cells #[.int .i64 0, .int .i64 0, .int .i64 0] 25) ∧ k = .int .u8 (y.toNat : Int))
      case first =>
        by_cases h2 : o + 1 < s.size
        · have m1 : decide ((o : Int) + 1 < (s.size : Int)) = true := decide_eq_true (by omega)
          have m2 : (0 : Int) ≤ (o : Int) + 1 := by omega
          have m3 : (o : Int) + 1 < (s.size : Int) := by omega
          have HY2 : Hid (s[o + 1] = y) := Lib.hid (by rw [HY.out, L_drop h2]; rfl)
          go_wp2
          go_meet
          case rel => exact ⟨rfl, by rw [HY2.out]⟩
        · have m1 : decide ((o : Int) + 1 < (s.size : Int)) = false := decide_eq_false (by omega)
          have HY2 : Hid ((0 : Int) = (y.toNat : Int)) := Lib.hid (by rw [HY.out, show (L s).drop (o + 1) = [] from List.drop_eq_nil_of_le (by rw [L_len]; omega)]; rfl)
          go_wp2
          go_meet
          case rel => exact ⟨rfl, by rw [← HY2.out]⟩
      case rest =>
        obtain ⟨rfl, rfl⟩ := hcut
        go_upto_region 10 with fail
        go_upto_block 0 with fail
        go_cut [9] from 38 to 49 (fun j wx => wx = w.alloc (.cells #[.int .i64 0, .int .i64 0, .int .i64 0] 25) ∧ j = .int .i64 (E : Int))
        case first =>
          go_wp2
          go_loop [9] (fun j => ∃ q : Nat, j = .int .i64 (q : Int) ∧ o ≤ q ∧ q ≤ s.size ∧ Hid (((L s).drop q).dropWhile isW = ((L s).drop o).dropWhile isW)) (fun j => s.size - (intOf j).toNat)
          case atStart => exact ⟨o, rfl, Nat.le_refl _, hos, Lib.hid rfl⟩
          case round =>
            obtain ⟨q, rfl, hoq, hq, HQ⟩ := hrel
            by_cases g1 : q < s.size
            · have j0 : (0 : Int) ≤ (q : Int) := by omega
              have j1 : (q : Int) < (s.size : Int) := by omega
              have j2 : decide ((q : Int) < (s.size : Int)) = true := decide_eq_true (by omega)
              have hwq : IntKind.i64.wrap ((q : Int) + 1) = (q : Int) + 1 := by rw [IntKind.wrap_i64]; omega
              obtain ⟨d, hd⟩ : ∃ d, d = s[q] := ⟨_, rfl⟩
              have HD := Lib.hid (L_drop g1)
              rw [← hd] at HD
              have HS := Lib.hid hd
              clear hd
              go_wp2_with fail
              rw [← HS.out]
              refine (wordByte_any _ _).mono ?_
              rintro e w' ⟨rfl, rfl⟩
              cases hw : isW d with
              | true =>
                have HN : Hid (((L s).drop (q + 1)).dropWhile isW = ((L s).drop o).dropWhile isW) := Lib.hid (by
                  have h5 := HQ.out
                  rw [HD.out, List.dropWhile_cons_of_pos hw] at h5
                  exact h5)
                clear HQ HD HS
                go_wp2
                go_round
                case rel => exact ⟨q + 1, by go_num, by omega, by omega, HN⟩
                case measure => simp only [intOf]; omega
              | false =>
                have hEq : q = E := by
                  have h5 := HQ.out
                  rw [HD.out, List.dropWhile_cons_of_neg (by simp [hw]), ← HD.out] at h5
                  rw [HE.out, ← h5, List.length_drop, L_len]; omega
                have HEQ := Lib.hid hEq
                clear HQ HD HS hEq
                go_wp2
                go_meet
                case rel => exact ⟨rfl, by rw [HEQ.out]⟩
            · have hEq : q = E := by
                have h5 := HQ.out
                rw [show (L s).drop q = [] from List.drop_eq_nil_of_le (by rw [L_len]; omega)] at h5
                rw [HE.out, ← h5]; simp; omega
              have HEQ := Lib.hid hEq
              have j2 : decide ((q : Int) < (s.size : Int)) = false := decide_eq_false (by omega)
              clear HQ hEq
              go_wp2
              go_meet
              case rel => exact ⟨rfl, by rw [← HEQ.out]⟩
        case rest =>
          obtain ⟨rfl, rfl⟩ := hcut
          have hD : (L s).drop o = c :: (L s).drop (o + 1) := by rw [HC.out]; exact L_drop h1
          obtain ⟨g, hg⟩ : ∃ g, g = (L s).drop (o + 1) := ⟨_, rfl⟩
          rw [← hg] at hD
          have HY' : Hid (y = hd0 g) := Lib.hid (by rw [hg]; exact HY.out)
          have HD := Lib.hid hD
          have HG := Lib.hid hg
          clear hD hg HY
          cases hdc : isD c with
          | true =>
            have hst : isD s[o] = true ∨ (s[o].toNat = 45 ∧ hdP isD ((L s).drop (o + 1)) = true) := .inl (by rw [← HC.out]; exact hdc)
            go_wp2_with fail
            refine (digit_any c _).mono ?_
            rintro e w' ⟨rfl, rfl⟩
            rw [hdc]
            have HST := Lib.hid hst
            clear hst
            have hit : NxFault s.size (next ((L s).drop o)) = T := HT.out.symm
            go_wp2_with fail
            refine (stuckInt_any s o _ h1 hs HST.out).mono ?_
            rintro e w2 ⟨rfl, hb⟩
            rw [hit]
            have hh : w2.heap[w.heap.size]? = some (.cells #[.int .i64 0, .int .i64 0, .int .i64 0] 25) := by
              rw [hb.block _ (by simp)]; exact heap_alloc_new _ _
            have c0 : w2.cell? ⟨w.heap.size, 0, none⟩ = some (.int .i64 0) := by simp only [World.cell?, hh]; rfl
            have c1 : w2.cell? ⟨w.heap.size, 1, none⟩ = some (.int .i64 0) := by simp only [World.cell?, hh]; rfl
            have c2 : w2.cell? ⟨w.heap.size, 2, none⟩ = some (.int .i64 0) := by simp only [World.cell?, hh]; rfl
            have f0 : w2.frozen? ⟨w.heap.size, 0, none⟩ = false := by simp only [World.frozen?, hh]; rfl
            have f1 : w2.frozen? ⟨w.heap.size, 1, none⟩ = false := by simp only [World.frozen?, hh]; rfl
            have f2 : w2.frozen? ⟨w.heap.size, 2, none⟩ = false := by simp only [World.frozen?, hh]; rfl
            have HB := Lib.hid (three_below (x := .int .i64 (T.1 : Int)) (y := .int .i64 0) (z := .int .i64 (T.2 : Int)) ((up_alloc w (.cells #[.int .i64 0, .int .i64 0, .int .i64 0] 25)).trans (hb.mono (by simp))))
            have HH := Lib.hid (three_set (x := .int .i64 (T.1 : Int)) (y := .int .i64 0) (z := .int .i64 (T.2 : Int)) hh)
            unfold FaultV
            clear hh hb hit
            go_wp2
            refine bodyPost_ret (results_cell_row rfl _ _ w.heap.size 25 #[.int .i64 (T.1 : Int), .int .i64 0, .int .i64 (T.2 : Int)] (0, 0) _ rfl HH.out Tryd.underlying25 rfl Tryd.size25) rfl ?_
            exact ⟨rfl, HB.out⟩
          | false =>
            by_cases b45 : c.toNat = 45
            · have e45 : ((c.toNat : Int) == 45) = true := by simp; omega
              have B45 := Lib.hid b45
              clear b45
              go_wp2_with fail
              refine (digit_any c _).mono ?_
              rintro e w' ⟨rfl, rfl⟩
              rw [hdc]
              go_wp2_with fail
              refine (digit_any y _).mono ?_
              rintro e w' ⟨rfl, rfl⟩
              cases hdy : isD y with
              | true =>
                have hst : isD s[o] = true ∨ (s[o].toNat = 45 ∧ hdP isD ((L s).drop (o + 1)) = true) := .inr ⟨by rw [← HC.out]; exact B45.out, by rw [← HG.out, hd_isD, ← HY'.out]; exact hdy⟩
                have HST := Lib.hid hst
                clear hst
                have hit : NxFault s.size (next ((L s).drop o)) = T := HT.out.symm
                go_wp2_with fail
                refine (stuckInt_any s o _ h1 hs HST.out).mono ?_
                rintro e w2 ⟨rfl, hb⟩
                rw [hit]
                have hh : w2.heap[w.heap.size]? = some (.cells #[.int .i64 0, .int .i64 0, .int .i64 0] 25) := by
                  rw [hb.block _ (by simp)]; exact heap_alloc_new _ _
                have c0 : w2.cell? ⟨w.heap.size, 0, none⟩ = some (.int .i64 0) := by simp only [World.cell?, hh]; rfl
                have c1 : w2.cell? ⟨w.heap.size, 1, none⟩ = some (.int .i64 0) := by simp only [World.cell?, hh]; rfl
                have c2 : w2.cell? ⟨w.heap.size, 2, none⟩ = some (.int .i64 0) := by simp only [World.cell?, hh]; rfl
                have f0 : w2.frozen? ⟨w.heap.size, 0, none⟩ = false := by simp only [World.frozen?, hh]; rfl
                have f1 : w2.frozen? ⟨w.heap.size, 1, none⟩ = false := by simp only [World.frozen?, hh]; rfl
                have f2 : w2.frozen? ⟨w.heap.size, 2, none⟩ = false := by simp only [World.frozen?, hh]; rfl
                have HB := Lib.hid (three_below (x := .int .i64 (T.1 : Int)) (y := .int .i64 0) (z := .int .i64 (T.2 : Int)) ((up_alloc w (.cells #[.int .i64 0, .int .i64 0, .int .i64 0] 25)).trans (hb.mono (by simp))))
                have HH := Lib.hid (three_set (x := .int .i64 (T.1 : Int)) (y := .int .i64 0) (z := .int .i64 (T.2 : Int)) hh)
                unfold FaultV
                clear hh hb hit
                go_wp2
                refine bodyPost_ret (results_cell_row rfl _ _ w.heap.size 25 #[.int .i64 (T.1 : Int), .int .i64 0, .int .i64 (T.2 : Int)] (0, 0) _ rfl HH.out Tryd.underlying25 rfl Tryd.size25) rfl ?_
                exact ⟨rfl, HB.out⟩
              | false =>
                have hw : isW c = false := by have b45 := B45.out; simp [isW, isD, isU, isL, b45]
                have hf : Hid (T = (10, o)) := Lib.hid (by
                  have b45 := B45.out
                  rw [HT.out, HD.out, next_sign hdc (fun h => by rw [hd_isD, ← HY'.out, hdy] at h; cases h.2) hw (by omega), sign_fault, if_neg (by omega), ← HD.out, List.length_drop, L_len, show s.size - (s.size - o) = o by omega])
                clear HT HD HG HY' HE
                have e34 : ((c.toNat : Int) == 34) = false := by have b45 := B45.out; simp; omega
                have e58 : ((c.toNat : Int) == 58) = false := by have b45 := B45.out; simp; omega
                have e33 : ((c.toNat : Int) == 33) = false := by have b45 := B45.out; simp; omega
                have e40 : ((c.toNat : Int) == 40) = false := by have b45 := B45.out; simp; omega
                have e41 : ((c.toNat : Int) == 41) = false := by have b45 := B45.out; simp; omega
                have e44 : ((c.toNat : Int) == 44) = false := by have b45 := B45.out; simp; omega
                have e46 : ((c.toNat : Int) == 46) = false := by have b45 := B45.out; simp; omega
                have e61 : ((c.toNat : Int) == 61) = false := by have b45 := B45.out; simp; omega
                have e60 : ((c.toNat : Int) == 60) = false := by have b45 := B45.out; simp; omega
                have e62 : ((c.toNat : Int) == 62) = false := by have b45 := B45.out; simp; omega
                go_wp2_with fail
                refine (wordByte_any c _).mono ?_
                rintro e w' ⟨rfl, rfl⟩
                rw [hw]
                go_wp2
                refine bodyPost_ret (results_cell_row rfl _ _ w.heap.size 25 #[.int .i64 10, .int .i64 0, .int .i64 (o : Int)] (0, 0) _ rfl (heap_alloc_new _ _) Tryd.underlying25 rfl Tryd.size25) rfl ?_
                exact ⟨congrArg Ending.returned (fault_eq hf.out), up_alloc _ _⟩
            have e45 : ((c.toNat : Int) == 45) = false := by simp; omega
            go_wp2_with fail
            refine (digit_any c _).mono ?_
            rintro e w' ⟨rfl, rfl⟩
            rw [hdc]
            go_wp2_with fail
            refine (wordByte_any c _).mono ?_
            rintro e w' ⟨rfl, rfl⟩
            cases hw : isW c with
            | true =>
              have hrl := run_len ((L s).drop o)
              rw [List.length_drop, L_len] at hrl
              have hEo : E = o + (((L s).drop o).takeWhile isW).length := by rw [HE.out]; omega
              have hEs : E ≤ s.size := by omega
              have hT3 : T = if 64 < (((L s).drop o).takeWhile isW).length then (14, o) else (0, 0) := by
                rw [HT.out, HD.out, next_word hdc b45 hw, word_fault, ← HD.out, List.length_drop, L_len, show s.size - (s.size - o) = o by omega]
              generalize (((L s).drop o).takeWhile isW).length = tl at hrl hEo hT3
              have hwE : IntKind.i64.wrap ((E : Int) - (o : Int)) = (E : Int) - (o : Int) := by rw [IntKind.wrap_i64]; omega
              by_cases h64 : 64 < tl
              · have d64 : decide ((E : Int) - (o : Int) > 64) = true := decide_eq_true (by omega)
                have hf : Hid (T = (14, o)) := Lib.hid (by rw [hT3, if_pos h64])
                clear HT HD HG HY' HE hT3 hEo hrl
                go_wp2
                refine bodyPost_ret (results_cell_row rfl _ _ w.heap.size 25 #[.int .i64 14, .int .i64 0, .int .i64 (o : Int)] (0, 0) _ rfl (heap_alloc_new _ _) Tryd.underlying25 rfl Tryd.size25) rfl ?_
                exact ⟨congrArg Ending.returned (fault_eq hf.out), up_alloc _ _⟩
              · have d64 : decide ((E : Int) - (o : Int) > 64) = false := decide_eq_false (by omega)
                have hf : Hid (T = (0, 0)) := Lib.hid (by rw [hT3, if_neg h64])
                clear HT HD HG HY' HE hT3 hEo hrl
                go_wp2
                refine bodyPost_ret (results_cell_row rfl _ _ w.heap.size 25 #[.int .i64 0, .int .i64 0, .int .i64 0] (0, 0) _ rfl (heap_alloc_new _ _) Tryd.underlying25 rfl Tryd.size25) rfl ?_
                exact ⟨congrArg Ending.returned (fault_eq hf.out), up_alloc _ _⟩
            | false =>
              by_cases b34 : c.toNat = 34
              · have e34 : ((c.toNat : Int) == 34) = true := by simp; omega
                have HST : Hid (s[o].toNat = 34) := Lib.hid (by rw [← HC.out]; exact b34)
                have hit : NxFault s.size (next ((L s).drop o)) = T := HT.out.symm
                go_wp2_with fail
                refine (stuckText_any s o _ h1 hs HST.out).mono ?_
                rintro e w2 ⟨rfl, hb⟩
                rw [hit]
                have hh : w2.heap[w.heap.size]? = some (.cells #[.int .i64 0, .int .i64 0, .int .i64 0] 25) := by
                  rw [hb.block _ (by simp)]; exact heap_alloc_new _ _
                have c0 : w2.cell? ⟨w.heap.size, 0, none⟩ = some (.int .i64 0) := by simp only [World.cell?, hh]; rfl
                have c1 : w2.cell? ⟨w.heap.size, 1, none⟩ = some (.int .i64 0) := by simp only [World.cell?, hh]; rfl
                have c2 : w2.cell? ⟨w.heap.size, 2, none⟩ = some (.int .i64 0) := by simp only [World.cell?, hh]; rfl
                have f0 : w2.frozen? ⟨w.heap.size, 0, none⟩ = false := by simp only [World.frozen?, hh]; rfl
                have f1 : w2.frozen? ⟨w.heap.size, 1, none⟩ = false := by simp only [World.frozen?, hh]; rfl
                have f2 : w2.frozen? ⟨w.heap.size, 2, none⟩ = false := by simp only [World.frozen?, hh]; rfl
                have HB := Lib.hid (three_below (x := .int .i64 (T.1 : Int)) (y := .int .i64 0) (z := .int .i64 (T.2 : Int)) ((up_alloc w (.cells #[.int .i64 0, .int .i64 0, .int .i64 0] 25)).trans (hb.mono (by simp))))
                have HH := Lib.hid (three_set (x := .int .i64 (T.1 : Int)) (y := .int .i64 0) (z := .int .i64 (T.2 : Int)) hh)
                unfold FaultV
                clear hh hb hit
                go_wp2
                refine bodyPost_ret (results_cell_row rfl _ _ w.heap.size 25 #[.int .i64 (T.1 : Int), .int .i64 0, .int .i64 (T.2 : Int)] (0, 0) _ rfl HH.out Tryd.underlying25 rfl Tryd.size25) rfl ?_
                exact ⟨rfl, HB.out⟩
              have e34 : ((c.toNat : Int) == 34) = false := by simp; omega
              have hT3 : T = if (c.toNat = 58 ∧ y.toNat = 45) ∨ (c.toNat = 33 ∧ y.toNat = 61) ∨ c.toNat = 40 ∨ c.toNat = 41 ∨ c.toNat = 44 ∨ c.toNat = 46 ∨ c.toNat = 61 ∨ c.toNat = 60 ∨ c.toNat = 62 then (0, 0) else (10, o) := by
                rw [HT.out, HD.out, next_sign hdc (fun h => b45 h.1) hw b34, sign_fault, ← HD.out, List.length_drop, L_len, show s.size - (s.size - o) = o by omega, ← HY'.out]
              have HT3 := Lib.hid hT3
              clear hT3 HT HD HG HY' HE
              by_cases b40 : c.toNat = 40
              · have hf : Hid (T = (0, 0)) := Lib.hid (by rw [HT3.out, if_pos (by omega)])
                clear HT3
                have e58 : ((c.toNat : Int) == 58) = false := by simp; omega
                have e33 : ((c.toNat : Int) == 33) = false := by simp; omega
                have e40 : ((c.toNat : Int) == 40) = true := by simp; omega
                have e41 : ((c.toNat : Int) == 41) = false := by simp; omega
                have e44 : ((c.toNat : Int) == 44) = false := by simp; omega
                have e46 : ((c.toNat : Int) == 46) = false := by simp; omega
                have e61 : ((c.toNat : Int) == 61) = false := by simp; omega
                have e60 : ((c.toNat : Int) == 60) = false := by simp; omega
                have e62 : ((c.toNat : Int) == 62) = false := by simp; omega
                clear b40
                go_wp2
                refine bodyPost_ret (results_cell_row rfl _ _ w.heap.size 25 #[.int .i64 0, .int .i64 0, .int .i64 0] (0, 0) _ rfl (heap_alloc_new _ _) Tryd.underlying25 rfl Tryd.size25) rfl ?_
                exact ⟨congrArg Ending.returned (fault_eq hf.out), up_alloc _ _⟩
              have e40 : ((c.toNat : Int) == 40) = false := by simp; omega
              by_cases b41 : c.toNat = 41
              · have hf : Hid (T = (0, 0)) := Lib.hid (by rw [HT3.out, if_pos (by omega)])
                clear HT3
                have e58 : ((c.toNat : Int) == 58) = false := by simp; omega
                have e33 : ((c.toNat : Int) == 33) = false := by simp; omega
                have e40 : ((c.toNat : Int) == 40) = false := by simp; omega
                have e41 : ((c.toNat : Int) == 41) = true := by simp; omega
                have e44 : ((c.toNat : Int) == 44) = false := by simp; omega
                have e46 : ((c.toNat : Int) == 46) = false := by simp; omega
                have e61 : ((c.toNat : Int) == 61) = false := by simp; omega
                have e60 : ((c.toNat : Int) == 60) = false := by simp; omega
                have e62 : ((c.toNat : Int) == 62) = false := by simp; omega
                clear b41
                go_wp2
                refine bodyPost_ret (results_cell_row rfl _ _ w.heap.size 25 #[.int .i64 0, .int .i64 0, .int .i64 0] (0, 0) _ rfl (heap_alloc_new _ _) Tryd.underlying25 rfl Tryd.size25) rfl ?_
                exact ⟨congrArg Ending.returned (fault_eq hf.out), up_alloc _ _⟩
              have e41 : ((c.toNat : Int) == 41) = false := by simp; omega
              by_cases b44 : c.toNat = 44
              · have hf : Hid (T = (0, 0)) := Lib.hid (by rw [HT3.out, if_pos (by omega)])
                clear HT3
                have e58 : ((c.toNat : Int) == 58) = false := by simp; omega
                have e33 : ((c.toNat : Int) == 33) = false := by simp; omega
                have e40 : ((c.toNat : Int) == 40) = false := by simp; omega
                have e41 : ((c.toNat : Int) == 41) = false := by simp; omega
                have e44 : ((c.toNat : Int) == 44) = true := by simp; omega
                have e46 : ((c.toNat : Int) == 46) = false := by simp; omega
                have e61 : ((c.toNat : Int) == 61) = false := by simp; omega
                have e60 : ((c.toNat : Int) == 60) = false := by simp; omega
                have e62 : ((c.toNat : Int) == 62) = false := by simp; omega
                clear b44
                go_wp2
                refine bodyPost_ret (results_cell_row rfl _ _ w.heap.size 25 #[.int .i64 0, .int .i64 0, .int .i64 0] (0, 0) _ rfl (heap_alloc_new _ _) Tryd.underlying25 rfl Tryd.size25) rfl ?_
                exact ⟨congrArg Ending.returned (fault_eq hf.out), up_alloc _ _⟩
              have e44 : ((c.toNat : Int) == 44) = false := by simp; omega
              by_cases b46 : c.toNat = 46
              · have hf : Hid (T = (0, 0)) := Lib.hid (by rw [HT3.out, if_pos (by omega)])
                clear HT3
                have e58 : ((c.toNat : Int) == 58) = false := by simp; omega
                have e33 : ((c.toNat : Int) == 33) = false := by simp; omega
                have e40 : ((c.toNat : Int) == 40) = false := by simp; omega
                have e41 : ((c.toNat : Int) == 41) = false := by simp; omega
                have e44 : ((c.toNat : Int) == 44) = false := by simp; omega
                have e46 : ((c.toNat : Int) == 46) = true := by simp; omega
                have e61 : ((c.toNat : Int) == 61) = false := by simp; omega
                have e60 : ((c.toNat : Int) == 60) = false := by simp; omega
                have e62 : ((c.toNat : Int) == 62) = false := by simp; omega
                clear b46
                go_wp2
                refine bodyPost_ret (results_cell_row rfl _ _ w.heap.size 25 #[.int .i64 0, .int .i64 0, .int .i64 0] (0, 0) _ rfl (heap_alloc_new _ _) Tryd.underlying25 rfl Tryd.size25) rfl ?_
                exact ⟨congrArg Ending.returned (fault_eq hf.out), up_alloc _ _⟩
              have e46 : ((c.toNat : Int) == 46) = false := by simp; omega
              by_cases b61 : c.toNat = 61
              · have hf : Hid (T = (0, 0)) := Lib.hid (by rw [HT3.out, if_pos (by omega)])
                clear HT3
                have e58 : ((c.toNat : Int) == 58) = false := by simp; omega
                have e33 : ((c.toNat : Int) == 33) = false := by simp; omega
                have e40 : ((c.toNat : Int) == 40) = false := by simp; omega
                have e41 : ((c.toNat : Int) == 41) = false := by simp; omega
                have e44 : ((c.toNat : Int) == 44) = false := by simp; omega
                have e46 : ((c.toNat : Int) == 46) = false := by simp; omega
                have e61 : ((c.toNat : Int) == 61) = true := by simp; omega
                have e60 : ((c.toNat : Int) == 60) = false := by simp; omega
                have e62 : ((c.toNat : Int) == 62) = false := by simp; omega
                clear b61
                go_wp2
                refine bodyPost_ret (results_cell_row rfl _ _ w.heap.size 25 #[.int .i64 0, .int .i64 0, .int .i64 0] (0, 0) _ rfl (heap_alloc_new _ _) Tryd.underlying25 rfl Tryd.size25) rfl ?_
                exact ⟨congrArg Ending.returned (fault_eq hf.out), up_alloc _ _⟩
              have e61 : ((c.toNat : Int) == 61) = false := by simp; omega
              by_cases b60 : c.toNat = 60
              · have hf : Hid (T = (0, 0)) := Lib.hid (by rw [HT3.out, if_pos (by omega)])
                clear HT3
                have e58 : ((c.toNat : Int) == 58) = false := by simp; omega
                have e33 : ((c.toNat : Int) == 33) = false := by simp; omega
                have e40 : ((c.toNat : Int) == 40) = false := by simp; omega
                have e41 : ((c.toNat : Int) == 41) = false := by simp; omega
                have e44 : ((c.toNat : Int) == 44) = false := by simp; omega
                have e46 : ((c.toNat : Int) == 46) = false := by simp; omega
                have e61 : ((c.toNat : Int) == 61) = false := by simp; omega
                have e60 : ((c.toNat : Int) == 60) = true := by simp; omega
                have e62 : ((c.toNat : Int) == 62) = false := by simp; omega
                clear b60
                go_wp2
                refine bodyPost_ret (results_cell_row rfl _ _ w.heap.size 25 #[.int .i64 0, .int .i64 0, .int .i64 0] (0, 0) _ rfl (heap_alloc_new _ _) Tryd.underlying25 rfl Tryd.size25) rfl ?_
                exact ⟨congrArg Ending.returned (fault_eq hf.out), up_alloc _ _⟩
              have e60 : ((c.toNat : Int) == 60) = false := by simp; omega
              by_cases b62 : c.toNat = 62
              · have hf : Hid (T = (0, 0)) := Lib.hid (by rw [HT3.out, if_pos (by omega)])
                clear HT3
                have e58 : ((c.toNat : Int) == 58) = false := by simp; omega
                have e33 : ((c.toNat : Int) == 33) = false := by simp; omega
                have e40 : ((c.toNat : Int) == 40) = false := by simp; omega
                have e41 : ((c.toNat : Int) == 41) = false := by simp; omega
                have e44 : ((c.toNat : Int) == 44) = false := by simp; omega
                have e46 : ((c.toNat : Int) == 46) = false := by simp; omega
                have e61 : ((c.toNat : Int) == 61) = false := by simp; omega
                have e60 : ((c.toNat : Int) == 60) = false := by simp; omega
                have e62 : ((c.toNat : Int) == 62) = true := by simp; omega
                clear b62
                go_wp2
                refine bodyPost_ret (results_cell_row rfl _ _ w.heap.size 25 #[.int .i64 0, .int .i64 0, .int .i64 0] (0, 0) _ rfl (heap_alloc_new _ _) Tryd.underlying25 rfl Tryd.size25) rfl ?_
                exact ⟨congrArg Ending.returned (fault_eq hf.out), up_alloc _ _⟩
              have e62 : ((c.toNat : Int) == 62) = false := by simp; omega
              by_cases b58 : c.toNat = 58 ∧ y.toNat = 45
              · have hf : Hid (T = (0, 0)) := Lib.hid (by rw [HT3.out, if_pos (by omega)])
                have e58 : ((c.toNat : Int) == 58) = true := by simp; omega
                have e33 : ((c.toNat : Int) == 33) = false := by simp; omega
                have ey : ((y.toNat : Int) == 45) = true := by simp; omega
                clear b58 HT3
                go_wp2
                refine bodyPost_ret (results_cell_row rfl _ _ w.heap.size 25 #[.int .i64 0, .int .i64 0, .int .i64 0] (0, 0) _ rfl (heap_alloc_new _ _) Tryd.underlying25 rfl Tryd.size25) rfl ?_
                exact ⟨congrArg Ending.returned (fault_eq hf.out), up_alloc _ _⟩
              by_cases b33 : c.toNat = 33 ∧ y.toNat = 61
              · have hf : Hid (T = (0, 0)) := Lib.hid (by rw [HT3.out, if_pos (by omega)])
                have e58 : ((c.toNat : Int) == 58) = false := by simp; omega
                have e33 : ((c.toNat : Int) == 33) = true := by simp; omega
                have ey : ((y.toNat : Int) == 61) = true := by simp; omega
                clear b33 HT3
                go_wp2
                refine bodyPost_ret (results_cell_row rfl _ _ w.heap.size 25 #[.int .i64 0, .int .i64 0, .int .i64 0] (0, 0) _ rfl (heap_alloc_new _ _) Tryd.underlying25 rfl Tryd.size25) rfl ?_
                exact ⟨congrArg Ending.returned (fault_eq hf.out), up_alloc _ _⟩
              have hf : Hid (T = (10, o)) := Lib.hid (by rw [HT3.out, if_neg (by omega)])
              clear HT3
              by_cases x58 : c.toNat = 58
              · have e58 : ((c.toNat : Int) == 58) = true := by simp; omega
                have e33 : ((c.toNat : Int) == 33) = false := by simp; omega
                have ey : ((y.toNat : Int) == 45) = false := by simp; omega
                clear x58
                go_wp2
                refine bodyPost_ret (results_cell_row rfl _ _ w.heap.size 25 #[.int .i64 10, .int .i64 0, .int .i64 (o : Int)] (0, 0) _ rfl (heap_alloc_new _ _) Tryd.underlying25 rfl Tryd.size25) rfl ?_
                exact ⟨congrArg Ending.returned (fault_eq hf.out), up_alloc _ _⟩
              have e58 : ((c.toNat : Int) == 58) = false := by simp; omega
              by_cases x33 : c.toNat = 33
              · have e33 : ((c.toNat : Int) == 33) = true := by simp; omega
                have ey : ((y.toNat : Int) == 61) = false := by simp; omega
                clear x33
                go_wp2
                refine bodyPost_ret (results_cell_row rfl _ _ w.heap.size 25 #[.int .i64 10, .int .i64 0, .int .i64 (o : Int)] (0, 0) _ rfl (heap_alloc_new _ _) Tryd.underlying25 rfl Tryd.size25) rfl ?_
                exact ⟨congrArg Ending.returned (fault_eq hf.out), up_alloc _ _⟩
              have e33 : ((c.toNat : Int) == 33) = false := by simp; omega
              go_wp2
              refine bodyPost_ret (results_cell_row rfl _ _ w.heap.size 25 #[.int .i64 10, .int .i64 0, .int .i64 (o : Int)] (0, 0) _ rfl (heap_alloc_new _ _) Tryd.underlying25 rfl Tryd.size25) rfl ?_
              exact ⟨congrArg Ending.returned (fault_eq hf.out), up_alloc _ _⟩
    · have e : o = s.size := by omega
      have hf : Hid (T = (0, 0)) := Lib.hid (by
        rw [hT2, show (L s).drop o = [] from List.drop_eq_nil_of_le (by rw [L_len]; omega)]; rfl)
      have k1 : ((o : Int) == (s.size : Int)) = true := by simp; omega
      clear e hT2
      go_wp2
      refine bodyPost_ret (results_cell_row rfl _ _ w.heap.size 25 #[.int .i64 0, .int .i64 0, .int .i64 0] (0, 0) _ rfl (heap_alloc_new _ _) Tryd.underlying25 rfl Tryd.size25) rfl ?_
      exact ⟨congrArg Ending.returned (fault_eq hf.out), up_alloc _ _⟩
end Go.Proofs.YthidnjnaifcfoaaDoor
