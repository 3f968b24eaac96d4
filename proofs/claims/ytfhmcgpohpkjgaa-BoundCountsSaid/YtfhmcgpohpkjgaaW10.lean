/-
  The walk of edictlaw09.lists: how many lists of n numbers below d there are, by going through them: d to the n. Conditions: 0 < d < 6, n < 5.
-/
import Derived.Test.YtfhmcgpohpkjgaaW5
import Derived.Test.YtfhmcgpohpkjgaaPlain2
namespace Go.Proofs.Ytfhmcgpohpkjgaa
open Go.RowKit Plain

theorem Try.info3 : (Try.prog.info? 3).map (fun i => (i.zero, i.size, i.bytes)) = some (some (.int .i64 0), 1, 8) := by kernel_rfl

def ints (l : List Nat) : List Value := l.map fun (x : Nat) => Value.int .i64 (x : Int)
theorem ints_get (l : List Nat) (i : Nat) (h : i < l.length) : (ints l)[i]? = some (.int .i64 ((l[i]?.getD 0 : Nat) : Int)) := by
  simp [ints, List.getElem?_eq_getElem h]
theorem ints_set (l : List Nat) (i x : Nat) : (ints l).set i (.int .i64 (x : Int)) = ints (l.set i x) := by
  simp [ints, List.map_set]

/-- The row of digits, in the call's own memory. -/
def SubRow (w wr : World) (n : Nat) (s : List Nat) : Prop :=
  wr.ownsRow w.heap.size 3 1 (.slice (some ⟨w.heap.size, 0, none⟩) n n) n (ints s) ∧ Below w.heap.size w wr
theorem SubRow.cell {w wr : World} {n i x : Nat} {s : List Nat} (h : SubRow w wr n s) (hs : s.length = n) (hi : i < n) (hx : x = s[i]?.getD 0) : wr.cell? ⟨w.heap.size, i, none⟩ = some (.int .i64 (x : Int)) := by
  rw [h.1.cellAt i (by omega), ints_get s i (by omega), hx]
theorem SubRow.free {w wr : World} {n : Nat} {s : List Nat} (h : SubRow w wr n s) (i : Nat) : wr.frozen? ⟨w.heap.size, i, none⟩ = false := h.1.frozenAt i
theorem SubRow.store {w wr : World} {n : Nat} {s : List Nat} (h : SubRow w wr n s) (i x : Nat) (X : Int) (hX : X = (x : Int)) : SubRow w (wr.setCell ⟨w.heap.size, i, none⟩ (.int .i64 X)) n (s.set i x) := by
  subst hX
  exact ⟨by rw [← ints_set]; exact (h.1.stored i _).1, h.2.setCell (Nat.le_refl _) _⟩

set_option maxRecDepth 100000 in
set_option maxHeartbeats 3200000 in
theorem lists_any (d n : Nat) (hd : 0 < d) (hd6 : d < 6) (hn : n < 5) (w : World) :
    Calls Try.prog 40 #[.int .i64 (d : Int), .int .i64 (n : Int)] w fun e w' => e = .returned (.int .u64 ((d ^ n : Nat) : Int)) ∧ Below w.heap.size w w' := by
  obtain ⟨i0, hi, hz0, hz1, hz2⟩ := info_parts Try.info3
  obtain ⟨T, hT⟩ : ∃ T, T = d ^ n := ⟨_, rfl⟩
  have hTb : T ≤ 625 := by
    rw [hT]
    exact Nat.le_trans (Nat.pow_le_pow_left (show d ≤ 5 by omega) n) (Nat.le_trans (Nat.pow_le_pow_right (by omega) (show n ≤ 4 by omega)) (by decide))
  rw [← hT]
  have HT := Lib.hid hT
  clear hT
  have HS := Lib.hid (OutInv.start hd n)
  have HZ : Hid ((madeCells (Value.int .i64 0).cells (n * 1)).toList = ints (List.replicate n 0)) := by
    unfold Hid
    simp [madeCells, ints, Value.cells, Nat.mod_one]
    rw [List.eq_replicate_iff]
    simp
  go_enter Try.func40, Try.ntmps40
  go_wp2_with (refine wpList_make_full w rfl _ _ 35 rfl w.heap.size 3 i0 (.int .i64 0) 1 Try.underlying35 hi hz0 hz1 .i64 .i64 _ _ n rfl rfl rfl rfl (by rw [hz2]; omega) (by unfold maxLen; omega) (Nat.le_refl _) ?_; intro w1 hown1 hgrow1)
  have hrow : SubRow w w1 n (List.replicate n 0) := ⟨by rw [HZ.out] at hown1; exact hown1, (Below.refl _ _).grown hgrow1 (Nat.le_refl _) (fun k hk => by cases hk)⟩
  have HR := Lib.hid hrow
  clear hown1 hgrow1 hrow HZ
  go_loopw [6] (fun v wr => ∃ (s : List Nat) (c : Nat), v = .int .u64 (c : Int) ∧ c ≤ T ∧ Hid (OutInv d n s c) ∧ Hid (SubRow w wr n s)) (fun v _ => T - (intOf v).toNat)
  case atStart => exact ⟨List.replicate n 0, 0, rfl, Nat.zero_le _, HS, HR⟩
  case round =>
    obtain ⟨s, c, rfl, hcT, hO, hS⟩ := hrel
    obtain ⟨wo, rfl⟩ : ∃ wo : World, wo = wr := ⟨_, rfl⟩
    have hlt : c < T := by have := hO.out.lt; rw [HT.out]; exact this
    clear HS HR
    go_wp2_with fail
    go_loop [14] (fun k => ∃ i : Nat, k = .int .i64 (i : Int) ∧ i ≤ n) (fun k => n - (intOf k).toNat)
    case atStart => exact ⟨0, rfl, Nat.zero_le _⟩
    case round =>
      obtain ⟨i, rfl, hin⟩ := hrel
      by_cases h1 : i < n
      · obtain ⟨x, hx⟩ : ∃ x : Nat, x = s[i]?.getD 0 := ⟨_, rfl⟩
        have hxd : x < d := by rw [hx]; exact hO.out.2.1 i (by rw [hO.out.1]; exact h1)
        have hcell := hS.out.cell hO.out.1 h1 hx
        clear hx
        go_wp2
        go_round
        case rel => exact ⟨i + 1, by go_num, by omega⟩
        case measure => simp only [intOf]; omega
      · have HI := Lib.hid (hO.out.enter)
        clear hO
        have hcb : c < 700 := by omega
        go_wp2
        go_loopw [9] (fun k wr => ∃ (j : Nat) (t : List Nat), k = .int .i64 (j : Int) ∧ j ≤ n ∧ Hid (InInv d n j t (c + 1)) ∧ Hid (SubRow w wr n t)) (fun k _ => n - (intOf k).toNat)
        case atStart => exact ⟨0, s, rfl, Nat.zero_le _, HI, hS⟩
        case round =>
          obtain ⟨j, t, rfl, hjn, hI, hSt⟩ := hrel
          by_cases h2 : j < n
          · obtain ⟨x, hx⟩ : ∃ x : Nat, x = t[j]?.getD 0 := ⟨_, rfl⟩
            have hxd : x < d := by rw [hx]; exact hI.out.2.1 j (by rw [hI.out.1]; exact h2)
            have hcell := hSt.out.cell hI.out.1 h2 hx
            have hfree := hSt.out.free j
            by_cases h3 : x + 1 < d
            · have HO := Lib.hid (hI.out.stay h2 (by rw [← hx]; exact h3))
              rw [← hx] at HO
              have HW := Lib.hid (hSt.out.store j (x + 1) ((x : Int) + 1) (by omega))
              have hjb : ((j : Int) == (n : Int)) = false := by simp; omega
              clear hx hI hSt
              go_wp2
              go_roundw
              case rel => exact ⟨_, c + 1, by go_num, by omega, HO, HW⟩
              case measure => simp only [intOf]; omega
            · have HO := Lib.hid (hI.out.turn h2 (by rw [← hx]; exact h3))
              have HW := Lib.hid ((hSt.out.store j (x + 1) ((x : Int) + 1) (by omega)).store j 0 0 rfl)
              rw [List.set_set] at HW
              clear hx hI hSt
              go_wp2
              go_roundw
              case rel => exact ⟨j + 1, t.set j 0, by go_num, by omega, HO, HW⟩
              case measure => simp only [intOf]; omega
          · obtain rfl : j = n := by omega
            have HE := Lib.hid (show c + 1 = T by rw [hI.out.stop, HT.out])
            clear h2 h1
            go_wp2
            go_ret
            exact ⟨ret_u64 (by rw [← HE.out]; rfl), hSt.out.2⟩

end Go.Proofs.Ytfhmcgpohpkjgaa
