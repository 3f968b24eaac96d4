/-
  The walk of edicttop.whole. Conditions: the text is at most 65536 bytes long, and digits with a minus ahead of them perhaps.
-/
import Derived.Test.YthidnjnaifcfoaaDoorW2
namespace Go.Proofs.YthidnjnaifcfoaaDoor
open Go.RowKit Go.Shelf Pl

/-- What whole answers. -/
def WholeIs (V : Option Int) (e : Ending) : Prop :=
  match V with
  | some v => e = .returned (.tuple #[.int .i64 v, .bool true])
  | none => ∃ v, e = .returned (.tuple #[.int .i64 v, .bool false])
theorem minus_back {n : Nat} (h : n ≤ 9223372036854775808) : wrap64 (wrap64 (-wrap64 (IntKind.u64.wrap ((n : Int) - 1))) - 1) = -(n : Int) := by
  rw [IntKind.wrap_u64]
  unfold wrap64
  omega
theorem whole_some {V : Option Int} {v x : Int} (h : V = some v) (hx : x = v) : WholeIs V (.returned (.tuple #[.int .i64 x, .bool true])) := by rw [h, hx]; rfl
theorem whole_none {V : Option Int} {x : Int} {b : Bool} (h : V = none) (hb : b = false) : WholeIs V (.returned (.tuple #[.int .i64 x, .bool b])) := by rw [h, hb]; exact ⟨_, rfl⟩
structure UB (n : Nat) : Prop where
  le : n ≤ 18446744073709551615
theorem UB.zero : UB 0 := ⟨Nat.zero_le _⟩
theorem L_extract (s : ByteArray) (a b : Nat) : L (s.extract a b) = ((L s).drop a).take (b - a) := by
  unfold L
  rw [Lib.extract_data]

set_option maxRecDepth 100000 in
set_option maxHeartbeats 3200000 in
theorem whole_any (s : ByteArray) (w : World) (h0 : 0 < s.size) (hs : s.size ≤ 65536) (hsp : IntSp (L s)) : Calls Tryd.prog 28 #[.string s] w fun e w' => WholeIs (intV (L s)) e ∧ w = w' := by
  obtain ⟨T, hT⟩ : ∃ T, T = intV (L s) := ⟨_, rfl⟩
  rw [← hT]
  have h0I : (0 : Int) < (s.size : Int) := by omega
  have h1I : (1 : Int) ≤ (s.size : Int) := by omega
  have hcons : L s = s[0] :: (L s).drop 1 := L_drop h0
  obtain ⟨c0, hc0⟩ : ∃ c0, c0 = s[0] := ⟨_, rfl⟩
  rw [← hc0] at hcons
  by_cases b45 : c0.toNat = 45
  · have e45 : ((c0.toNat : Int) == 45) = true := by simp; omega
    obtain ⟨f, hf⟩ : ∃ f, f = s.extract 1 s.size := ⟨_, rfl⟩
    have hLf : L f = (L s).drop 1 := by
      rw [hf, L_extract, List.take_of_length_le (by rw [List.length_drop, L_len]; exact Nat.le_refl _)]
    have hfs : f.size ≤ 65536 := by
      have := L_len f
      rw [hLf, List.length_drop, L_len] at this
      omega
    have hall : (L f).all isD = true := by
      obtain ⟨g, hg, hg1, hg2⟩ := hsp
      rcases hg with hg | ⟨c, hg, hc⟩
      · exfalso
        rw [← hg, hcons] at hg2
        simp [isD] at hg2
        omega
      · rw [hcons, List.cons.injEq] at hg
        rw [hLf, hg.2]; exact hg2
    have hTV : T = if digV 0 (L f) ≤ 9223372036854775808 then some (-(digV 0 (L f) : Int)) else none := by
      rw [hT, hcons, hLf]
      simp only [intV]
      rw [if_pos b45]
    have HF := Lib.hid hf
    have HC0 := Lib.hid hc0
    have HALL := Lib.hid hall
    have HT := Lib.hid hTV
    clear hT hcons hsp hLf hall hTV hf hc0
    go_enter Tryd.func28, Tryd.ntmps28
    go_upto_region 2 with fail
    rw [← HC0.out]
    go_upto_region 4 with fail
    rw [← HF.out]
    have hz : Hid (0 = digV 0 ((L f).take 0)) := Lib.hid (by rw [List.take_zero]; rfl)
    go_upto_region 5 with fail
    go_wp2
    go_loop [5, 6] (fun k i => ∃ (n j : Nat), k = .int .u64 (n : Int) ∧ i = .int .i64 (j : Int) ∧ j ≤ f.size ∧ Hid (n = digV 0 ((L f).take j)) ∧ UB n) (fun _ i => f.size - (intOf i).toNat)
    case atStart => exact ⟨0, 0, by first | rfl | go_num, by first | rfl | go_num, by omega, hz, UB.zero⟩
    case round =>
      obtain ⟨n, j, rfl, rfl, hj, HN, HN2⟩ := hrel
      by_cases h1 : j < f.size
      · have k1 : (j : Int) < (f.size : Int) := by omega
        have k0 : (0 : Int) ≤ (j : Int) := by omega
        have hw1 : IntKind.i64.wrap ((j : Int) + 1) = (j : Int) + 1 := by rw [IntKind.wrap_i64]; omega
        obtain ⟨d, hd⟩ : ∃ d, d = f[j].toNat - 48 := ⟨_, rfl⟩
        have hdig : isD f[j] = true := by
          have h5 := all_at HALL.out (show j < (L f).length by rw [L_len]; exact h1)
          rw [L_get h1] at h5; exact h5
        have hd2 : 48 ≤ f[j].toNat ∧ f[j].toNat ≤ 57 := by simpa [isD] using hdig
        have hd9 : d ≤ 9 := by omega
        have hw2 : IntKind.u8.wrap ((f[j].toNat : Int) - 48) = (d : Int) := by rw [IntKind.wrap_u8]; omega
        have hw3 : IntKind.u64.wrap (d : Int) = (d : Int) := by rw [IntKind.wrap_u64]; omega
        have hnext : digV 0 ((L f).take (j + 1)) = n * 10 + d := by
          rw [digV_next (show j < (L f).length by rw [L_len]; exact h1), ← HN.out, L_get h1, hd]
        have HNX := Lib.hid hnext
        clear hnext hdig hd2 hd
        by_cases hover : 18446744073709551615 < n * 10 + d
        · have hf : Hid (T = none) := by
            have h5 := digV_part (L f) (j + 1)
            rw [HNX.out] at h5
            refine Lib.hid ?_
            rw [HT.out, if_neg (by omega)]
          clear HNX HN HN2
          go_wp2
          go_ret2
          exact ⟨whole_none hf.out rfl, rfl⟩
        · have hn3 : UB (n * 10 + d) := ⟨by omega⟩
          go_wp2
          go_round
          case rel => exact ⟨n * 10 + d, j + 1, by first | rfl | go_num, by go_num, by omega, Lib.hid HNX.out.symm, hn3⟩
          case measure => simp only [intOf]; omega
      · have e : j = f.size := by omega
        have hx : n = digV 0 (L f) := by
          rw [HN.out, List.take_of_length_le (by rw [L_len]; omega)]
        have hnb := HN2.le
        rw [← hx] at HT
        clear hx HN
        go_wp2
        · go_ret2
          exact ⟨whole_some (by rw [HT.out, if_pos (by omega)]) (minus_back (by omega)), rfl⟩
        · go_ret2
          exact ⟨whole_none (by rw [HT.out, if_neg (by omega)]) rfl, rfl⟩
  · have e45 : ((c0.toNat : Int) == 45) = false := by simp; omega
    obtain ⟨f, hf⟩ : ∃ f, f = s := ⟨_, rfl⟩
    have hfs : f.size ≤ 65536 := by rw [hf]; exact hs
    have hall : (L f).all isD = true := by
      obtain ⟨g, hg, hg1, hg2⟩ := hsp
      rcases hg with hg | ⟨c, hg, hc⟩
      · rw [hf, hg]; exact hg2
      · exfalso
        rw [hcons, List.cons.injEq] at hg
        rw [hg.1] at b45
        exact b45 hc
    have hTV : T = if digV 0 (L f) < 9223372036854775808 then some (digV 0 (L f) : Int) else none := by
      rw [hf, hT, hcons]
      simp only [intV]
      rw [if_neg b45]
    have HF := Lib.hid hf
    have HC0 := Lib.hid hc0
    have HALL := Lib.hid hall
    have HT := Lib.hid hTV
    clear hT hcons hsp hall hTV hf hc0
    go_enter Tryd.func28, Tryd.ntmps28
    go_upto_region 2 with fail
    rw [← HC0.out]
    go_upto_region 4 with fail
    rw [← HF.out]
    have hz : Hid (0 = digV 0 ((L f).take 0)) := Lib.hid (by rw [List.take_zero]; rfl)
    go_upto_region 5 with fail
    go_wp2
    go_loop [5, 6] (fun k i => ∃ (n j : Nat), k = .int .u64 (n : Int) ∧ i = .int .i64 (j : Int) ∧ j ≤ f.size ∧ Hid (n = digV 0 ((L f).take j)) ∧ UB n) (fun _ i => f.size - (intOf i).toNat)
    case atStart => exact ⟨0, 0, by first | rfl | go_num, by first | rfl | go_num, by omega, hz, UB.zero⟩
    case round =>
      obtain ⟨n, j, rfl, rfl, hj, HN, HN2⟩ := hrel
      by_cases h1 : j < f.size
      · have k1 : (j : Int) < (f.size : Int) := by omega
        have k0 : (0 : Int) ≤ (j : Int) := by omega
        have hw1 : IntKind.i64.wrap ((j : Int) + 1) = (j : Int) + 1 := by rw [IntKind.wrap_i64]; omega
        obtain ⟨d, hd⟩ : ∃ d, d = f[j].toNat - 48 := ⟨_, rfl⟩
        have hdig : isD f[j] = true := by
          have h5 := all_at HALL.out (show j < (L f).length by rw [L_len]; exact h1)
          rw [L_get h1] at h5; exact h5
        have hd2 : 48 ≤ f[j].toNat ∧ f[j].toNat ≤ 57 := by simpa [isD] using hdig
        have hd9 : d ≤ 9 := by omega
        have hw2 : IntKind.u8.wrap ((f[j].toNat : Int) - 48) = (d : Int) := by rw [IntKind.wrap_u8]; omega
        have hw3 : IntKind.u64.wrap (d : Int) = (d : Int) := by rw [IntKind.wrap_u64]; omega
        have hnext : digV 0 ((L f).take (j + 1)) = n * 10 + d := by
          rw [digV_next (show j < (L f).length by rw [L_len]; exact h1), ← HN.out, L_get h1, hd]
        have HNX := Lib.hid hnext
        clear hnext hdig hd2 hd
        by_cases hover : 18446744073709551615 < n * 10 + d
        · have hf : Hid (T = none) := by
            have h5 := digV_part (L f) (j + 1)
            rw [HNX.out] at h5
            refine Lib.hid ?_
            rw [HT.out, if_neg (by omega)]
          clear HNX HN HN2
          go_wp2
          go_ret2
          exact ⟨whole_none hf.out rfl, rfl⟩
        · have hn3 : UB (n * 10 + d) := ⟨by omega⟩
          go_wp2
          go_round
          case rel => exact ⟨n * 10 + d, j + 1, by first | rfl | go_num, by go_num, by omega, Lib.hid HNX.out.symm, hn3⟩
          case measure => simp only [intOf]; omega
      · have e : j = f.size := by omega
        have hx : n = digV 0 (L f) := by
          rw [HN.out, List.take_of_length_le (by rw [L_len]; omega)]
        have hnb := HN2.le
        rw [← hx] at HT
        clear hx HN
        by_cases hlt : n < 9223372036854775808
        · have hd : decide ((n : Int) < 9223372036854775808) = true := decide_eq_true (by omega)
          go_wp2
          go_ret2
          refine ⟨whole_some (by rw [HT.out, if_pos hlt]) rfl, rfl⟩
        · have hd : decide ((n : Int) < 9223372036854775808) = false := decide_eq_false (by omega)
          go_wp2
          go_ret2
          exact ⟨whole_none (by rw [HT.out, if_neg hlt]) rfl, rfl⟩
end Go.Proofs.YthidnjnaifcfoaaDoor
