/-
  Texts of this seat, one behind the other: W4, W5, W6. Conditions: those that each of them states.
-/
import Derived.Test.YtncdjkdpoinfaaaGreatDoorG4
/-
  The walk of edicttop.quoted, at a text's spelling. Conditions: the spelling is at most 65536 bytes long and is read as that text.
-/
namespace Go.Proofs.YtncdjkdpoinfaaaGreatDoor
open Go.RowKit Go.Shelf Pl

/-- A spelling of a text ends with its quote. -/
theorem txt_quote : ∀ (k : Nat) (acc w t : List UInt8), w.length ≤ k → txt acc w = .ok t [] → ∃ u c, w = u ++ [c] ∧ c.toNat = 34
  | 0, acc, w, t, hk, h => by
    have : w = [] := List.length_eq_zero_iff.1 (by omega)
    subst this
    rw [txt_nil] at h; cases h
  | k + 1, acc, [], t, hk, h => by rw [txt_nil] at h; cases h
  | k + 1, acc, [a], t, hk, h => ⟨[], a, rfl, (txt_last h).1⟩
  | k + 1, acc, a :: b :: r, t, hk, h => by
    obtain ⟨_, _, h3⟩ := txt_more h
    rcases h3 with ⟨_, c, n, he, hn, hr⟩ | ⟨_, hr⟩
    · have h2 := esc_len he
      obtain ⟨u, c', hu, hc⟩ := txt_quote k _ _ _ (by rw [List.length_drop]; simp at hk ⊢; omega) hr
      refine ⟨(a :: b :: r).take n ++ u, c', ?_, hc⟩
      rw [List.append_assoc, ← hu, List.take_append_drop]
    · obtain ⟨u, c', hu, hc⟩ := txt_quote k _ _ _ (by simp at hk ⊢; omega) hr
      exact ⟨a :: u, c', by rw [hu]; rfl, hc⟩
/-- The byte that comes next is the text's next byte. -/
theorem pre_at {v : List UInt8} {k : Nat} {c : UInt8} {z : List UInt8} (hk : k ≤ v.length) (h : v = v.take k ++ [c] ++ z) : ∃ h1 : k < v.length, v[k] = c ∧ v.take (k + 1) = v.take k ++ [c] := by
  have hl : (v.take k).length = k := by rw [List.length_take]; omega
  have h1 : k < v.length := by
    rw [h]; simp [hl]
  have h2 : v[k] = c := by
    have h3 : v[k]? = some c := by
      rw [h, List.append_assoc, List.getElem?_append_right (by omega), hl]
      simp
    rw [List.getElem?_eq_getElem h1] at h3
    exact Option.some.inj h3
  exact ⟨h1, h2, by rw [List.take_succ_eq_append_getElem h1, h2]⟩

set_option maxRecDepth 100000 in
set_option maxHeartbeats 3200000 in
theorem quoted_any (s v : ByteArray) (w : World) (hs : s.size ≤ 65536) (c0 : UInt8) (r : List UInt8) (hL : L s = c0 :: r) (hc0 : c0.toNat = 34) (hr : txt [] r = .ok (L v) []) : Calls Tryz.prog 55 #[.string s, .string v] w fun e w' => e = .returned (.bool true) ∧ ∃ m, w' = w.drewN m := by
  obtain ⟨u, cl, hu, hcl⟩ := txt_quote r.length _ _ _ (Nat.le_refl _) hr
  have hlen : s.size = u.length + 2 := by rw [← L_len, hL, hu]; simp
  obtain ⟨m, hm⟩ : ∃ m, m = u.length + 1 := ⟨_, rfl⟩
  have hms : s.size = m + 1 := by omega
  have hm1 : 1 ≤ m := by omega
  have h0 : 0 < s.size := by omega
  have h0I : (0 : Int) < (s.size : Int) := by omega
  have hmI : (m : Int) < (s.size : Int) := by omega
  have hm0 : (0 : Int) ≤ (m : Int) := by omega
  have hmlt : m < s.size := by omega
  have hmle : (m : Int) ≤ (s.size : Int) := by omega
  have hwm : IntKind.i64.wrap ((s.size : Int) - 1) = (m : Int) := by rw [IntKind.wrap_i64]; omega
  have h2 : decide ((s.size : Int) < 2) = false := decide_eq_false (by omega)
  have ec0 : s[0] = c0 := by
    have h5 := L_drop h0
    rw [List.drop_zero, hL] at h5
    injection h5 with h6 h7
    exact h6.symm
  have ecm : s[m] = cl := by
    have h5 : (L s)[m]'(by rw [L_len]; exact hmlt) = cl := by
      simp only [hL, hu, hm]
      simp
    rw [L_get hmlt] at h5; exact h5
  have e1 : ((s[0].toNat : Int) != 34) = false := by rw [ec0]; simp; omega
  have e2 : ((s[m].toNat : Int) != 34) = false := by rw [ecm]; simp; omega
  have hstart : Hid (txt ((L v).take 0) ((L s).drop 1) = .ok (L v) []) := by
    rw [hL, List.take_zero]; exact Lib.hid hr
  have HE1 := Lib.hid e1
  obtain ⟨sc, hsc⟩ : ∃ sc, sc = s.extract 0 m := ⟨_, rfl⟩
  have HLsc : Hid (L s = L sc ++ [cl]) := by
    refine Lib.hid ?_
    rw [hsc, L_extract, List.drop_zero, hL, hu, hm]
    simp
  have HSC := Lib.hid hsc
  have hscs : sc.size = m := by
    have := HLsc.out
    have h5 := congrArg List.length this
    rw [List.length_append, L_len, L_len] at h5
    simp at h5; omega
  clear hL hr hu ec0 ecm hsc hcl hm hlen hc0
  go_enter Tryz.func55, Tryz.ntmps55
  go_wp2
  go_loopw [5, 6] (fun k i wr => ∃ (a j : Nat), k = .int .i64 (a : Int) ∧ i = .int .i64 (j : Int) ∧ a ≤ v.size ∧ a ≤ j ∧ j ≤ m ∧ Hid (txt ((L v).take a) ((L s).drop j) = .ok (L v) []) ∧ ∃ x, wr = w.drewN x) (fun _ i _ => m - (intOf i).toNat)
  case atStart => exact ⟨0, 1, by first | rfl | go_num, by first | rfl | go_num, by omega, by omega, by omega, hstart, 0, rfl⟩
  case round =>
    obtain ⟨a, j, rfl, rfl, ha, haj, hj, HQ, x, rfl⟩ := hrel
    by_cases h1 : j < m
    · have hjs : j < s.size := by omega
      have k0 : (0 : Int) ≤ (j : Int) := by omega
      have k1 : (j : Int) < (s.size : Int) := by omega
      have k2 : decide ((j : Int) < (m : Int)) = true := decide_eq_true (by omega)
      obtain ⟨c, hc⟩ : ∃ c, c = s[j] := ⟨_, rfl⟩
      obtain ⟨hb, hrest⟩ : ∃ b, (L s).drop j = c :: b :: (L s).drop (j + 2) := ⟨s[j + 1], by rw [L_drop hjs, L_drop (show j + 1 < s.size by omega), hc]⟩
      obtain ⟨hm1', hm2', hm3'⟩ := txt_more (by rw [← hrest]; exact HQ.out)
      have HC := Lib.hid hc
      have HR := Lib.hid hrest
      have HM := Lib.hid hm3'
      clear hc hrest hm3'
      have e34 : ((c.toNat : Int) == 34) = false := by simp; omega
      have e32 : decide ((c.toNat : Int) < 32) = false := decide_eq_false (by omega)
      go_upto_region 7 with fail
      rw [← HC.out]
      by_cases b92 : c.toNat = 92
      · have e92 : ((c.toNat : Int) == 92) = true := by simp; omega
        obtain ⟨c', n, hes, hn, hnx⟩ : ∃ c' n, esc ((L s).drop j) = some (c', n) ∧ n < ((L s).drop j).length ∧ txt ((L v).take a ++ [c']) ((L s).drop (j + n)) = .ok (L v) [] := by
          rcases HM.out with h5 | h5
          · obtain ⟨_, c', n, h6, h7, h8⟩ := h5
            refine ⟨c', n, by rw [HR.out]; exact h6, by rw [HR.out]; simpa using h7, ?_⟩
            rw [← HR.out, List.drop_drop] at h8
            exact h8
          · exact absurd b92 h5.1
        have hn2 := esc_len hes
        have hjn : j + n ≤ m := by
          rw [List.length_drop, L_len] at hn; omega
        have hes2 : esc ((L sc).drop j) = some (c', n) := by
          refine esc_self hes (u := (L sc).drop j) (rest := [cl]) ?_ ?_
          · rw [HLsc.out, List.drop_append_of_le_length (by rw [L_len]; omega)]
          · rw [List.length_drop, L_len]; omega
        obtain ⟨z, hz⟩ := txt_pre _ _ _ _ _ (Nat.le_refl _) hnx
        obtain ⟨g1, g2, g3⟩ := pre_at (by rw [L_len]; exact ha) hz
        rw [L_len] at g1
        have g2' : v[a] = c' := by rw [← L_get g1]; exact g2
        have HN : Hid (txt ((L v).take (a + 1)) ((L s).drop (j + n)) = .ok (L v) []) := by rw [g3]; exact Lib.hid hnx
        have e5 : decide ((a : Int) ≥ (v.size : Int)) = false := decide_eq_false (by omega)
        have e6 : ((v[a].toNat : Int) != (c'.toNat : Int)) = false := by rw [g2']; simp
        have e8 : ((n : Int) == 0) = false := by simp; omega
        have a0 : (0 : Int) ≤ (a : Int) := by omega
        have a1 : (a : Int) < (v.size : Int) := by omega
        have hwa : IntKind.i64.wrap ((a : Int) + 1) = (a : Int) + 1 := by rw [IntKind.wrap_i64]; omega
        have hwj : IntKind.i64.wrap ((j : Int) + (n : Int)) = (j : Int) + (n : Int) := by rw [IntKind.wrap_i64]; omega
        have HES := Lib.hid hes2
        clear hnx hz g2 g3 g2' HM HR hes hes2 hn
        go_wp2_with fail
        rw [← HSC.out]
        refine (escape_any sc j _ (by omega) (by omega)).mono ?_
        rintro e w' ⟨he, x2, rfl⟩
        rw [HES.out] at he
        subst he
        go_wp2
        go_round
        case rel => exact ⟨a + 1, j + n, by go_num, by go_num, by omega, by omega, by omega, HN, _, rfl⟩
        case measure => simp only [intOf]; omega
      · have e92 : ((c.toNat : Int) == 92) = false := by simp; omega
        have hnx : txt ((L v).take a ++ [c]) ((L s).drop (j + 1)) = .ok (L v) [] := by
          rcases HM.out with h5 | h5
          · exact absurd h5.1 b92
          · have h6 := h5.2
            rw [L_drop hjs] at HR
            have h7 := HR.out
            injection h7 with _ h8
            rw [h8]; exact h6
        obtain ⟨z, hz⟩ := txt_pre _ _ _ _ _ (Nat.le_refl _) hnx
        obtain ⟨g1, g2, g3⟩ := pre_at (by rw [L_len]; exact ha) hz
        rw [L_len] at g1
        have g2' : v[a] = c := by rw [← L_get g1]; exact g2
        have HN : Hid (txt ((L v).take (a + 1)) ((L s).drop (j + 1)) = .ok (L v) []) := by rw [g3]; exact Lib.hid hnx
        have e5 : decide ((a : Int) ≥ (v.size : Int)) = false := decide_eq_false (by omega)
        have e6 : ((v[a].toNat : Int) != (c.toNat : Int)) = false := by rw [g2']; simp
        have a0 : (0 : Int) ≤ (a : Int) := by omega
        have a1 : (a : Int) < (v.size : Int) := by omega
        have hwa : IntKind.i64.wrap ((a : Int) + 1) = (a : Int) + 1 := by rw [IntKind.wrap_i64]; omega
        have hwj : IntKind.i64.wrap ((j : Int) + 1) = (j : Int) + 1 := by rw [IntKind.wrap_i64]; omega
        clear hnx hz g2 g3 g2' HM HR
        go_wp2
        go_round
        case rel => exact ⟨a + 1, j + 1, by go_num, by go_num, by omega, by omega, by omega, HN, x, rfl⟩
        case measure => simp only [intOf]; omega
    · have e : j = m := by omega
      have hend : L v = (L v).take a := by
        have h5 := HQ.out
        rw [L_drop (show j < s.size by omega), show (L s).drop (j + 1) = [] from List.drop_eq_nil_of_le (by rw [L_len]; omega)] at h5
        exact (txt_last h5).2
      have hav : a = v.size := by
        have h5 := congrArg List.length hend
        rw [List.length_take, L_len] at h5
        omega
      have e7 : ((a : Int) == (v.size : Int)) = true := by simp; omega
      clear hend e
      go_wp2
      go_ret
      exact ⟨rfl, x, rfl⟩
end Go.Proofs.YtncdjkdpoinfaaaGreatDoor
/-
  The walk of edicttop.stuckInt. Conditions: the text is at most 65536 bytes long; an integer begins at the place.
-/
namespace Go.Proofs.YtncdjkdpoinfaaaGreatDoor
open Go.RowKit Go.Shelf Pl


theorem Tryz.size25 : (Tryz.prog.info? 27).map (·.size) = some 3 := by kernel_rfl
def FaultV (code off : Nat) : Value := .agg #[.int .i64 (code : Int), .int .i64 0, .int .i64 (off : Int)]
/-- What the text's next token is, told by its fault alone. -/
def NxFault (n : Nat) (N : Nx) : Nat × Nat :=
  match N with
  | .fault code a => (code, n - a.length)
  | _ => (0, 0)
theorem isD_isW {c : UInt8} (h : isD c = true) : isW c = true := by simp [isW, h]
theorem next_int {c : UInt8} {g : List UInt8} (h : isD c = true ∨ (c.toNat = 45 ∧ hdP isD g = true)) :
    next (c :: g) = if (g.takeWhile isW).all isD then
      match intV ((c :: g).take ((c :: g).length - (g.dropWhile isW).length)) with
      | some v => .tok 3 0 [] v (g.dropWhile isW)
      | none => .fault 13 (c :: g)
    else .fault 13 (c :: g) := by
  by_cases hc : isD c = true
  · simp only [next]
    rw [if_pos hc]
    unfold nextInt
    rw [List.takeWhile_cons_of_pos (isD_isW hc), List.dropWhile_cons_of_pos (isD_isW hc), List.all_cons, hc, Bool.true_and]
    rfl
  · have h' := h.resolve_left hc
    simp only [next]
    rw [if_neg hc, if_pos h']
    rfl

theorem cut_drop (s : ByteArray) (o q : Nat) : L (s.extract o q) = ((L s).drop o).take (q - o) := L_extract s o q
theorem stuck_bad {s : ByteArray} {o : Nat} {T : Nat × Nat} (ho : o < s.size) (hst : isD s[o] = true ∨ (s[o].toNat = 45 ∧ hdP isD ((L s).drop (o + 1)) = true)) (hT : T = NxFault s.size (next ((L s).drop o)))
    (h : (((L s).drop (o + 1)).takeWhile isW).all isD = false) : T = (13, o) := by
  rw [hT, L_drop ho, next_int hst, h, if_neg (by simp)]
  simp only [NxFault]
  rw [← L_drop ho, List.length_drop, L_len, show s.size - (s.size - o) = o by omega]
theorem stuck_ok {s : ByteArray} {o q : Nat} {T : Nat × Nat} (ho : o < s.size) (hq1 : o + 1 ≤ q) (hq : q ≤ s.size) (hst : isD s[o] = true ∨ (s[o].toNat = 45 ∧ hdP isD ((L s).drop (o + 1)) = true)) (hT : T = NxFault s.size (next ((L s).drop o)))
    (h1 : ((L s).drop (o + 1)).dropWhile isW = (L s).drop q) (h2 : (((L s).drop (o + 1)).takeWhile isW).all isD = true) (h3 : (((L s).drop (o + 1)).take (q - (o + 1))).all isD = true) :
    IntSp (L (s.extract o q)) ∧ T = match intV (L (s.extract o q)) with | some _ => (0, 0) | none => (13, o) := by
  have e1 : L (s.extract o q) = s[o] :: ((L s).drop (o + 1)).take (q - (o + 1)) := by
    rw [cut_drop, L_drop ho, show q - o = (q - (o + 1)) + 1 by omega, List.take_succ_cons]
  constructor
  · rw [e1]
    by_cases hc : isD s[o] = true
    · exact ⟨_, .inl rfl, by simp, by rw [List.all_cons, hc, h3]; rfl⟩
    · obtain ⟨hc1, hc2⟩ := hst.resolve_left hc
      refine ⟨((L s).drop (o + 1)).take (q - (o + 1)), .inr ⟨_, rfl, hc1⟩, ?_, h3⟩
      intro h
      have hlen : o + 1 < s.size := by
        rcases Nat.lt_or_ge (o + 1) s.size with h5 | h5
        · exact h5
        · rw [hdP_end (by rw [L_len]; exact h5)] at hc2; cases hc2
      rw [L_drop hlen] at hc2 h1
      rw [List.dropWhile_cons_of_pos (isD_isW (show isD s[o + 1] = true from hc2))] at h1
      have h6 := congrArg List.length h1
      have h7 := (List.dropWhile_suffix isW (l := (L s).drop (o + 1 + 1))).length_le
      have h8 := congrArg List.length h
      rw [List.length_take, List.length_drop, L_len] at h8
      rw [List.length_drop, L_len] at h6 h7
      simp at h8
      omega
  · rw [hT, L_drop ho, next_int hst, h2, if_pos rfl, h1, ← L_drop ho]
    rw [List.length_drop, List.length_drop, L_len, show s.size - o - (s.size - q) = q - o by omega, ← cut_drop]
    cases intV (L (s.extract o q)) with
    | some v => rfl
    | none =>
      simp only [NxFault]
      rw [List.length_drop, L_len, show s.size - (s.size - o) = o by omega]

theorem fault_eq {T : Nat × Nat} {c o : Nat} (h : T = (c, o)) : FaultV c o = FaultV T.1 T.2 := by rw [h]

set_option maxRecDepth 100000 in
set_option maxHeartbeats 3200000 in
theorem stuckInt_any (s : ByteArray) (o : Nat) (w : World) (ho : o < s.size) (hs : s.size ≤ 65536) (hst : isD s[o] = true ∨ (s[o].toNat = 45 ∧ hdP isD ((L s).drop (o + 1)) = true)) :
    Calls Tryz.prog 44 #[.string s, .int .i64 (o : Int)] w fun e w' => e = .returned (FaultV (NxFault s.size (next ((L s).drop o))).1 (NxFault s.size (next ((L s).drop o))).2) ∧ Below w.heap.size w w' := by
  obtain ⟨T, hT⟩ : ∃ T, T = NxFault s.size (next ((L s).drop o)) := ⟨_, rfl⟩
  rw [← hT]
  have HBAD := Lib.hid (stuck_bad ho hst hT)
  have HOK := Lib.hid (fun q (hq1 : o + 1 ≤ q) (hq : q ≤ s.size) => stuck_ok ho hq1 hq hst hT)
  clear hT hst
  have hw1 : IntKind.i64.wrap ((o : Int) + 1) = (o : Int) + 1 := by rw [IntKind.wrap_i64]; omega
  go_enter Tryz.func44, Tryz.ntmps44
  go_wp2
  go_loop [5] (fun k => ∃ q : Nat, k = .int .i64 (q : Int) ∧ o + 1 ≤ q ∧ q ≤ s.size ∧
      Hid (((L s).drop q).dropWhile isW = ((L s).drop (o + 1)).dropWhile isW ∧ (((L s).drop q).takeWhile isW).all isD = (((L s).drop (o + 1)).takeWhile isW).all isD ∧ (((L s).drop (o + 1)).take (q - (o + 1))).all isD = true)) (fun k => s.size - (intOf k).toNat)
  case atStart => exact ⟨o + 1, by go_num, by omega, by omega, Lib.hid ⟨rfl, rfl, by rw [Nat.sub_self]; rfl⟩⟩
  case round =>
    obtain ⟨q, rfl, hq1, hq, HQ⟩ := hrel
    by_cases h1 : q < s.size
    · have k0 : (0 : Int) ≤ (q : Int) := by omega
      have k1 : (q : Int) < (s.size : Int) := by omega
      have k2 : decide ((q : Int) < (s.size : Int)) = true := decide_eq_true (by omega)
      obtain ⟨c, hc⟩ : ∃ c, c = s[q] := ⟨_, rfl⟩
      have HD := Lib.hid (L_drop h1)
      go_wp2_with fail
      refine (wordByte_any _ _).mono ?_
      rintro e w' ⟨rfl, rfl⟩
      rw [← hc] at HD ⊢
      have HC := Lib.hid hc
      clear hc
      cases hw : isW c with
      | true =>
        go_wp2_with fail
        rw [← HC.out]
        refine (digit_any _ _).mono ?_
        rintro e w' ⟨rfl, rfl⟩
        cases hd : isD c with
        | true =>
          have hwq : IntKind.i64.wrap ((q : Int) + 1) = (q : Int) + 1 := by rw [IntKind.wrap_i64]; omega
          have HN : Hid (((L s).drop (q + 1)).dropWhile isW = ((L s).drop (o + 1)).dropWhile isW ∧ (((L s).drop (q + 1)).takeWhile isW).all isD = (((L s).drop (o + 1)).takeWhile isW).all isD ∧ (((L s).drop (o + 1)).take (q + 1 - (o + 1))).all isD = true) := by
            obtain ⟨g1, g2, g3⟩ := HQ.out
            rw [HD.out, List.dropWhile_cons_of_pos hw] at g1
            rw [HD.out, List.takeWhile_cons_of_pos hw, List.all_cons, hd, Bool.true_and] at g2
            refine Lib.hid ⟨g1, g2, ?_⟩
            have h5 : q - (o + 1) < ((L s).drop (o + 1)).length := by rw [List.length_drop, L_len]; omega
            have h6 : ((L s).drop (o + 1))[q - (o + 1)]'h5 = c := by
              have h7 := drop_at h5
              rw [List.drop_drop, show o + 1 + (q - (o + 1)) = q by omega, HD.out] at h7
              injection h7 with h8 _
              exact h8.symm
            rw [show q + 1 - (o + 1) = q - (o + 1) + 1 by omega, List.take_succ_eq_append_getElem h5, h6, List.all_append, g3]
            simp [hd]
          clear HD HQ HC
          go_wp2
          go_round
          case rel => exact ⟨q + 1, by go_num, by omega, by omega, HN⟩
          case measure => simp only [intOf]; omega
        | false =>
          have hf : Hid (T = (13, o)) := Lib.hid (HBAD.out (by
            obtain ⟨g1, g2, g3⟩ := HQ.out
            rw [HD.out, List.takeWhile_cons_of_pos hw, List.all_cons, hd, Bool.false_and] at g2
            exact g2.symm))
          clear HD HQ HC
          go_wp2
          refine bodyPost_ret (results_cell_row rfl _ _ w.heap.size 27 #[.int .i64 13, .int .i64 0, .int .i64 (o : Int)] (0, 0) _ rfl (heap_alloc_new _ _) Tryz.underlying27 rfl Tryz.size25) rfl ?_
          exact ⟨congrArg Ending.returned (fault_eq hf.out), up_alloc _ _⟩
      | false =>
        have hfin : (((L s).drop (o + 1)).dropWhile isW = (L s).drop q) ∧ (((L s).drop (o + 1)).takeWhile isW).all isD = true := by
            obtain ⟨g1, g2, g3⟩ := HQ.out
            rw [HD.out, List.dropWhile_cons_of_neg (by simp [hw])] at g1
            rw [HD.out, List.takeWhile_cons_of_neg (by simp [hw])] at g2
            exact ⟨by rw [← g1, HD.out], by rw [← g2]; rfl⟩
        clear HD HC
        obtain ⟨z, hz⟩ : ∃ z, z = s.extract o q := ⟨_, rfl⟩
        have hsp := HOK.out q hq1 hq hfin.1 hfin.2 HQ.out.2.2
        rw [← hz] at hsp
        have HSP := Lib.hid hsp.1
        have HT2 := Lib.hid hsp.2
        have HZ := Lib.hid hz
        have hzs : z.size = q - o := by rw [← L_len, hz, cut_drop, List.length_take, List.length_drop, L_len]; omega
        have hoq : (o : Int) ≤ (q : Int) := by omega
        have hqs : (q : Int) ≤ (s.size : Int) := by omega
        have ho0 : (0 : Int) ≤ (o : Int) := by omega
        clear hz hsp hfin HQ HOK HBAD
        go_wp2_with fail
        rw [← HZ.out]
        refine (whole_any z _ (by omega) (by omega) HSP.out).mono ?_
        rintro e w' ⟨he, rfl⟩
        cases hV : intV (L z) with
        | some v =>
          rw [hV] at he
          have he2 : e = .returned (.tuple #[.int .i64 v, .bool true]) := he
          subst he2
          have hf : T = (0, 0) := by have := HT2.out; rw [hV] at this; exact this
          have HF := Lib.hid hf
          clear hf
          go_wp2
          refine bodyPost_ret (results_cell_row rfl _ _ w.heap.size 27 #[.int .i64 0, .int .i64 0, .int .i64 0] (0, 0) _ rfl (heap_alloc_new _ _) Tryz.underlying27 rfl Tryz.size25) rfl ?_
          exact ⟨congrArg Ending.returned (fault_eq HF.out), up_alloc _ _⟩
        | none =>
          rw [hV] at he
          obtain ⟨v, he2⟩ : ∃ v, e = .returned (.tuple #[.int .i64 v, .bool false]) := he
          subst he2
          have hf : T = (13, o) := by have := HT2.out; rw [hV] at this; exact this
          have HF := Lib.hid hf
          clear hf
          go_wp2
          refine bodyPost_ret (results_cell_row rfl _ _ w.heap.size 27 #[.int .i64 13, .int .i64 0, .int .i64 (o : Int)] (0, 0) _ rfl (heap_alloc_new _ _) Tryz.underlying27 rfl Tryz.size25) rfl ?_
          exact ⟨congrArg Ending.returned (fault_eq HF.out), up_alloc _ _⟩
    · have e : q = s.size := by omega
      have hfin : (((L s).drop (o + 1)).dropWhile isW = (L s).drop q) ∧ (((L s).drop (o + 1)).takeWhile isW).all isD = true := by
        obtain ⟨g1, g2, g3⟩ := HQ.out
        have h5 : (L s).drop q = [] := List.drop_eq_nil_of_le (by rw [L_len]; omega)
        rw [h5] at g1 g2
        exact ⟨by rw [← g1, h5]; rfl, by rw [← g2]; rfl⟩
      clear e
      have k2 : decide ((q : Int) < (s.size : Int)) = false := decide_eq_false (by omega)
      obtain ⟨z, hz⟩ : ∃ z, z = s.extract o q := ⟨_, rfl⟩
      have hsp := HOK.out q hq1 hq hfin.1 hfin.2 HQ.out.2.2
      rw [← hz] at hsp
      have HSP := Lib.hid hsp.1
      have HT2 := Lib.hid hsp.2
      have HZ := Lib.hid hz
      have hzs : z.size = q - o := by rw [← L_len, hz, cut_drop, List.length_take, List.length_drop, L_len]; omega
      have hoq : (o : Int) ≤ (q : Int) := by omega
      have hqs : (q : Int) ≤ (s.size : Int) := by omega
      have ho0 : (0 : Int) ≤ (o : Int) := by omega
      clear hz hsp hfin HQ HOK HBAD
      go_wp2_with fail
      rw [← HZ.out]
      refine (whole_any z _ (by omega) (by omega) HSP.out).mono ?_
      rintro e w' ⟨he, rfl⟩
      cases hV : intV (L z) with
      | some v =>
        rw [hV] at he
        have he2 : e = .returned (.tuple #[.int .i64 v, .bool true]) := he
        subst he2
        have hf : T = (0, 0) := by have := HT2.out; rw [hV] at this; exact this
        have HF := Lib.hid hf
        clear hf
        go_wp2
        refine bodyPost_ret (results_cell_row rfl _ _ w.heap.size 27 #[.int .i64 0, .int .i64 0, .int .i64 0] (0, 0) _ rfl (heap_alloc_new _ _) Tryz.underlying27 rfl Tryz.size25) rfl ?_
        exact ⟨congrArg Ending.returned (fault_eq HF.out), up_alloc _ _⟩
      | none =>
        rw [hV] at he
        obtain ⟨v, he2⟩ : ∃ v, e = .returned (.tuple #[.int .i64 v, .bool false]) := he
        subst he2
        have hf : T = (13, o) := by have := HT2.out; rw [hV] at this; exact this
        have HF := Lib.hid hf
        clear hf
        go_wp2
        refine bodyPost_ret (results_cell_row rfl _ _ w.heap.size 27 #[.int .i64 13, .int .i64 0, .int .i64 (o : Int)] (0, 0) _ rfl (heap_alloc_new _ _) Tryz.underlying27 rfl Tryz.size25) rfl ?_
        exact ⟨congrArg Ending.returned (fault_eq HF.out), up_alloc _ _⟩
end Go.Proofs.YtncdjkdpoinfaaaGreatDoor
/-
  The walk of edicttop.stuckText. Conditions: the text is at most 65536 bytes long; a quote stands at the place.
-/
namespace Go.Proofs.YtncdjkdpoinfaaaGreatDoor
open Go.RowKit Go.Shelf Pl

theorem below_drewN {B n : Nat} {a w : World} (h : Below B a w) : Below B a (w.drewN n) := ⟨h.os, h.tape, h.output, h.size, h.block⟩
theorem fault_below (w : World) (o : Obj) (x : Nat) : Below w.heap.size w ((w.alloc o).drewN x) := below_drewN (up_alloc w o)
theorem three_sets (w : World) (x : Nat) (A B C : Value) : ((((w.alloc (.cells #[.int .i64 0, .int .i64 0, .int .i64 0] 27)).drewN x).setCell ⟨w.heap.size, 0, none⟩ A).setCell ⟨w.heap.size, 1, none⟩ B).setCell ⟨w.heap.size, 2, none⟩ C = (w.alloc (.cells #[A, B, C] 27)).drewN x := by
  show World.drewN ((((w.alloc (.cells #[.int .i64 0, .int .i64 0, .int .i64 0] 27)).setCell ⟨w.heap.size, 0, none⟩ A).setCell ⟨w.heap.size, 1, none⟩ B).setCell ⟨w.heap.size, 2, none⟩ C) x = _
  congr 1
  simp [go_sem]
def TxFault (n o : Nat) (R : Tx) : Nat × Nat :=
  match R with
  | .quote => (11, o)
  | .esc a => (12, n - a.length)
  | .long => (15, o)
  | .ok _ _ => (0, 0)
theorem next_text {c : UInt8} {g : List UInt8} (h : c.toNat = 34) : next (c :: g) = nextText (c :: g) g := by
  have h1 : ¬ isD c = true := by simp [isD]; omega
  have h2 : ¬ isW c = true := by simp [isW, isD, isU, isL]; omega
  simp only [next]
  rw [if_neg h1, if_neg (by omega), if_neg h2, if_pos h]
theorem stuck_text {s : ByteArray} {o : Nat} (ho : o < s.size) (h : s[o].toNat = 34) : NxFault s.size (next ((L s).drop o)) = TxFault s.size o (txt [] ((L s).drop (o + 1))) := by
  rw [L_drop ho, next_text h]
  unfold nextText
  have hl : s.size - (s[o] :: (L s).drop (o + 1)).length = o := by rw [← L_drop ho, List.length_drop, L_len]; omega
  cases txt [] ((L s).drop (o + 1)) with
  | quote => simp only [NxFault, TxFault]; rw [hl]
  | esc a => rfl
  | long => simp only [NxFault, TxFault]; rw [hl]
  | ok t r => rfl

set_option maxRecDepth 100000 in
set_option maxHeartbeats 3200000 in
theorem stuckText_any (s : ByteArray) (o : Nat) (w : World) (ho : o < s.size) (hs : s.size ≤ 65536) (hst : s[o].toNat = 34) :
    Calls Tryz.prog 45 #[.string s, .int .i64 (o : Int)] w fun e w' => e = .returned (FaultV (NxFault s.size (next ((L s).drop o))).1 (NxFault s.size (next ((L s).drop o))).2) ∧ Below w.heap.size w w' := by
  rw [stuck_text ho hst]
  obtain ⟨T, hT⟩ : ∃ T, T = TxFault s.size o (txt [] ((L s).drop (o + 1))) := ⟨_, rfl⟩
  rw [← hT]
  have HT := Lib.hid hT
  clear hT
  have hw1 : IntKind.i64.wrap ((o : Int) + 1) = (o : Int) + 1 := by rw [IntKind.wrap_i64]; omega
  go_enter Tryz.func45, Tryz.ntmps45
  go_wp2
  go_loopw [5, 6] (fun k i wr => ∃ (acc : List UInt8) (q : Nat), k = .int .i64 (acc.length : Int) ∧ i = .int .i64 (q : Int) ∧ acc.length ≤ 255 ∧ o + 1 ≤ q ∧ q ≤ s.size ∧ Hid (T = TxFault s.size o (txt acc ((L s).drop q))) ∧ ∃ x, wr = (w.alloc (.cells #[.int .i64 0, .int .i64 0, .int .i64 0] 27)).drewN x) (fun _ i _ => s.size - (intOf i).toNat)
  case atStart => exact ⟨[], o + 1, by first | rfl | go_num, by go_num, by simp, by omega, by omega, HT, 0, rfl⟩
  case round =>
    obtain ⟨acc, q, rfl, rfl, hacc, hoq, hq, HQ, x, rfl⟩ := hrel
    obtain ⟨n, hn⟩ : ∃ n, n = acc.length := ⟨_, rfl⟩
    rw [← hn] at hacc ⊢
    have HN := Lib.hid hn
    clear hn
    by_cases h1 : q < s.size
    · have k0 : (0 : Int) ≤ (q : Int) := by omega
      have k1 : (q : Int) < (s.size : Int) := by omega
      have k2 : decide ((q : Int) < (s.size : Int)) = true := decide_eq_true (by omega)
      obtain ⟨c, hc⟩ : ∃ c, c = s[q] := ⟨_, rfl⟩
      have HD := Lib.hid (L_drop h1)
      rw [← hc] at HD
      have HC := Lib.hid hc
      clear hc
      go_upto_region 5 with fail
      rw [← HC.out]
      by_cases b32 : c.toNat < 32
      · have e32 : decide ((c.toNat : Int) < 32) = true := decide_eq_true (by omega)
        have hf : Hid (T = (11, o)) := Lib.hid (by rw [HQ.out, HD.out, txt_low b32]; rfl)
        go_wp2
        rw [three_sets]
        refine bodyPost_ret (results_cell_row rfl _ _ w.heap.size 27 #[.int .i64 11, .int .i64 0, .int .i64 (o : Int)] (0, 0) _ rfl (heap_alloc_new _ _) Tryz.underlying27 rfl Tryz.size25) rfl ?_
        exact ⟨congrArg Ending.returned (fault_eq hf.out), fault_below _ _ _⟩
      have e32 : decide ((c.toNat : Int) < 32) = false := decide_eq_false (by omega)
      by_cases b34 : c.toNat = 34
      · have e34 : ((c.toNat : Int) == 34) = true := by simp; omega
        have hf : Hid (T = (0, 0)) := Lib.hid (by rw [HQ.out, HD.out, txt_close b34]; rfl)
        go_wp2
        rw [three_sets]
        refine bodyPost_ret (results_cell_row rfl _ _ w.heap.size 27 #[.int .i64 0, .int .i64 0, .int .i64 0] (0, 0) _ rfl (heap_alloc_new _ _) Tryz.underlying27 rfl Tryz.size25) rfl ?_
        exact ⟨congrArg Ending.returned (fault_eq hf.out), fault_below _ _ _⟩
      have e34 : ((c.toNat : Int) == 34) = false := by simp; omega
      have hwn : IntKind.i64.wrap ((n : Int) + 1) = (n : Int) + 1 := by rw [IntKind.wrap_i64]; omega
      by_cases b92 : c.toNat = 92
      · have e92 : ((c.toNat : Int) == 92) = true := by simp; omega
        cases hE : esc ((L s).drop q) with
        | none =>
          have hf : Hid (T = (12, q)) := Lib.hid (by
            rw [HQ.out]
            have h5 := hE
            rw [HD.out] at h5
            rw [HD.out, txt_bad b92 h5, ← HD.out]
            simp only [TxFault]
            rw [List.length_drop, L_len, show s.size - (s.size - q) = q by omega])
          clear HQ HD HC
          go_wp2_with fail
          refine (escape_any s q _ h1 hs).mono ?_
          rintro e w' ⟨he, x2, rfl⟩
          rw [hE] at he
          subst he
          go_wp2
          rw [three_sets]
          refine bodyPost_ret (results_cell_row rfl _ _ w.heap.size 27 #[.int .i64 12, .int .i64 0, .int .i64 (q : Int)] (0, 0) _ rfl (heap_alloc_new _ _) Tryz.underlying27 rfl Tryz.size25) rfl ?_
          exact ⟨congrArg Ending.returned (fault_eq hf.out), fault_below _ _ _⟩
        | some z =>
          obtain ⟨c', k⟩ := z
          have hk := esc_len hE
          rw [List.length_drop, L_len] at hk
          have e8 : ((k : Int) == 0) = false := by simp; omega
          have hwq : IntKind.i64.wrap ((q : Int) + (k : Int)) = (q : Int) + (k : Int) := by rw [IntKind.wrap_i64]; omega
          have hstep : txt acc ((L s).drop q) = if acc.length = 255 then .long else txt (acc ++ [c']) ((L s).drop (q + k)) := by
            have h5 := hE
            rw [HD.out] at h5
            rw [HD.out, txt_esc b92 h5, ← HD.out, List.drop_drop]
          by_cases h255 : n = 255
          · have e255 : ((n : Int) == 255) = true := by simp; omega
            have hf : Hid (T = (15, o)) := Lib.hid (by rw [HQ.out, hstep, if_pos (by rw [← HN.out]; exact h255)]; rfl)
            clear HQ HD HC hstep
            have HE := Lib.hid hE
            clear hE
            go_wp2_with fail
            refine (escape_any s q _ h1 hs).mono ?_
            rintro e w' ⟨he, x2, rfl⟩
            rw [HE.out] at he
            subst he
            go_wp2
            rw [three_sets]
            refine bodyPost_ret (results_cell_row rfl _ _ w.heap.size 27 #[.int .i64 15, .int .i64 0, .int .i64 (o : Int)] (0, 0) _ rfl (heap_alloc_new _ _) Tryz.underlying27 rfl Tryz.size25) rfl ?_
            exact ⟨congrArg Ending.returned (fault_eq hf.out), fault_below _ _ _⟩
          · have e255 : ((n : Int) == 255) = false := by simp; omega
            have HX : Hid (T = TxFault s.size o (txt (acc ++ [c']) ((L s).drop (q + k)))) := Lib.hid (by rw [HQ.out, hstep, if_neg (by rw [← HN.out]; exact h255)])
            have HL : Hid (((acc ++ [c']).length : Int) = (n : Int) + 1) := Lib.hid (by rw [HN.out]; simp)
            have HL2 : (acc ++ [c']).length ≤ 255 := by have := HN.out; simp; omega
            clear HQ HD HC hstep
            have HE := Lib.hid hE
            clear hE
            go_wp2_with fail
            refine (escape_any s q _ h1 hs).mono ?_
            rintro e w' ⟨he, x2, rfl⟩
            rw [HE.out] at he
            subst he
            go_wp2
            go_roundw
            case rel => exact ⟨acc ++ [c'], q + k, by rw [HL.out], by go_num, HL2, by omega, by omega, HX, _, rfl⟩
            case measure => simp only [intOf]; omega
      · have e92 : ((c.toNat : Int) == 92) = false := by simp; omega
        have hwq : IntKind.i64.wrap ((q : Int) + 1) = (q : Int) + 1 := by rw [IntKind.wrap_i64]; omega
        by_cases h255 : n = 255
        · have e255 : ((n : Int) == 255) = true := by simp; omega
          have hf : Hid (T = (15, o)) := Lib.hid (by rw [HQ.out, HD.out, txt_byte b32 b34 b92, if_pos (by rw [← HN.out]; exact h255)]; rfl)
          clear HQ HD HC
          go_wp2
          rw [three_sets]
          refine bodyPost_ret (results_cell_row rfl _ _ w.heap.size 27 #[.int .i64 15, .int .i64 0, .int .i64 (o : Int)] (0, 0) _ rfl (heap_alloc_new _ _) Tryz.underlying27 rfl Tryz.size25) rfl ?_
          exact ⟨congrArg Ending.returned (fault_eq hf.out), fault_below _ _ _⟩
        · have e255 : ((n : Int) == 255) = false := by simp; omega
          have HX : Hid (T = TxFault s.size o (txt (acc ++ [c]) ((L s).drop (q + 1)))) := Lib.hid (by rw [HQ.out, HD.out, txt_byte b32 b34 b92, if_neg (by rw [← HN.out]; exact h255)])
          have HL : Hid (((acc ++ [c]).length : Int) = (n : Int) + 1) := Lib.hid (by rw [HN.out]; simp)
          have HL2 : (acc ++ [c]).length ≤ 255 := by have := HN.out; simp; omega
          clear HQ HD HC
          go_wp2
          go_roundw
          case rel => exact ⟨acc ++ [c], q + 1, by rw [HL.out], by go_num, HL2, by omega, by omega, HX, _, rfl⟩
          case measure => simp only [intOf]; omega
    · have hf : Hid (T = (11, o)) := Lib.hid (by
        rw [HQ.out, show (L s).drop q = [] from List.drop_eq_nil_of_le (by rw [L_len]; omega), txt_nil]; rfl)
      have k2 : decide ((q : Int) < (s.size : Int)) = false := decide_eq_false (by omega)
      clear HQ
      go_wp2
      rw [three_sets]
      refine bodyPost_ret (results_cell_row rfl _ _ w.heap.size 27 #[.int .i64 11, .int .i64 0, .int .i64 (o : Int)] (0, 0) _ rfl (heap_alloc_new _ _) Tryz.underlying27 rfl Tryz.size25) rfl ?_
      exact ⟨congrArg Ending.returned (fault_eq hf.out), fault_below _ _ _⟩
end Go.Proofs.YtncdjkdpoinfaaaGreatDoor
