/-
  The walk of edictlaw10.filled: the constants, and for each variable a number that hangs on it alone. Conditions: the numbers are ints, the list is within the form's own reach.
-/
import Derived.Test.YtlandkindbmbfaaW10
namespace Go.Proofs.Ytlandkindbmbfaa
open Go.RowKit Plain

/-- What filled puts in place of a variable. -/
def XR (x n : Int) : Int := bits .and .i64 (bits .xor .i64 n x) 65535
def fl (x : Int) (a : Slt) : Int := if a.1 then XR x a.2 else a.2
def FillIs (l : List Slt) (x : Int) (w : World) (e : Ending) (w' : World) : Prop := ∃ v, e = .returned v ∧ OwnInts w' w.heap.size v (l.map (fl x)) ∧ Below w.heap.size w w'
theorem fl_next {l : List Slt} {i : Nat} {x y : Int} {a : Slt} (hi : l[i]? = some a) (he : fl x a = y) : (l.take (i + 1)).map (fl x) = (l.take i).map (fl x) ++ [y] := by
  rw [take_one hi, List.map_append, ← he]; rfl

set_option maxRecDepth 100000 in
set_option maxHeartbeats 1600000 in
theorem filled_any (p : Int) (l : List Slt) (x : Int) (v : Value) (w : World) (hv : SlotsAt w w.heap.size v l) (hn : l.length ≤ 8796093021952) :
    Calls Try.prog 25 #[.agg #[.int .i64 p, v], .int .i64 x] w (FillIs l x w) := by
  obtain ⟨i3, qi, q0, q1, q2⟩ := info_parts Try.info3
  obtain ⟨a, cap, rfl, ha⟩ := hv.form
  have HA := Lib.hid ha
  obtain ⟨W0, hW0⟩ : ∃ W0, W0 = w.alloc (.cells #[.int .i64 p, .slice a l.length cap] 39) := ⟨_, rfl⟩
  have hz0 : W0.heap.size = w.heap.size + 1 := by rw [hW0]; simp
  have HB0 := Lib.hid (show Below w.heap.size w W0 by rw [hW0]; exact (Below.refl _ _).alloc (Nat.le_refl _) _)
  have HK := Lib.hid (show W0.cell? ⟨w.heap.size, 1, none⟩ = some (.slice a l.length cap) by rw [hW0]; simp)
  have HV := Lib.hid (hv.below HB0.out)
  clear hv ha
  go_enter Try.func25, Try.ntmps25
  go_wp2
  rw [← hW0]
  clear hW0
  go_loopw [5, 6] (fun v k wr => ∃ (o : Value) (i : Nat), o = v ∧ k = .int .i64 (i : Int) ∧ i ≤ l.length ∧ Below W0.heap.size W0 wr ∧ OwnInts wr W0.heap.size o ((l.take i).map (fl x))) (fun _ k _ => l.length - (intOf k).toNat)
  case atStart => exact ⟨_, 0, rfl, rfl, Nat.zero_le _, Below.refl _ _, OwnInts.nil _ _⟩
  case round =>
    obtain ⟨v, i, rfl, rfl, hil, hnx, hown⟩ := hrel
    have hsz := hnx.size
    have ka := below_cells hnx (p := ⟨w.heap.size, 1, none⟩) (show w.heap.size < W0.heap.size by omega) HK.out
    have NX := Lib.hid hnx
    by_cases h1 : i < l.length
    · obtain ⟨g, off, rfl⟩ := HA.out (ne_of_lt_len h1)
      obtain ⟨b, n, hsi⟩ : ∃ b n, l[i]? = some (b, n) := ⟨l[i].1, l[i].2, List.getElem?_eq_getElem h1⟩
      obtain ⟨hg, c0, c1⟩ := SlotsAt.get ((HV.out.mono (show w.heap.size ≤ W0.heap.size by omega)).below NX.out) hsi
      have HI := Lib.hid hsi
      have hol : ((l.take i).map (fl x)).length = i := by rw [List.length_map, List.length_take]; omega
      obtain ⟨out, hout⟩ : ∃ out, out = (l.take i).map (fl x) := ⟨_, rfl⟩
      rw [← hout] at hown hol
      have HO := Lib.hid hown
      have HT := Lib.hid hout
      have holb : out.length ≤ 8796093021952 := by omega
      clear hsi hout hol hnx hown
      cases b with
      | false =>
        go_wp2_with (at_builtin; refine wpList_append_own _ rfl _ _ 25 rfl W0.heap.size 3 i3 (.int .i64 0) 1 8 Try.underlying25 qi q0 q1 q2 rfl (by decide) v out.length (lits out) rfl (World.ownsRow.alloc HO.out _) ⟨wr.heap.size, 0, none⟩ 1 1 [.int .i64 (n)] rfl rfl (cell_one_new _ _ _) (one_i64 _) (by unfold maxLen; omega) (by omega) (by simp; omega) ?_; intro v' w1 hown' hgrow hnl)
        have R := own_snoc hsz HO.out NX.out hown' hgrow
        go_roundw
        case rel => exact ⟨_, i + 1, rfl, by go_num, by omega, R.2, by rw [fl_next HI.out (show fl x (false, n) = n from rfl), ← HT.out]; exact R.1⟩
        case measure => simp only [intOf]; omega
      | true =>
        go_wp2_with (at_builtin; refine wpList_append_own _ rfl _ _ 25 rfl W0.heap.size 3 i3 (.int .i64 0) 1 8 Try.underlying25 qi q0 q1 q2 rfl (by decide) v out.length (lits out) rfl (World.ownsRow.alloc HO.out _) ⟨wr.heap.size, 0, none⟩ 1 1 [.int .i64 (bits .and .i64 (bits .xor .i64 n x) 65535)] rfl rfl (cell_one_new _ _ _) (one_i64 _) (by unfold maxLen; omega) (by omega) (by simp; omega) ?_; intro v' w1 hown' hgrow hnl)
        have R := own_snoc hsz HO.out NX.out hown' hgrow
        go_roundw
        case rel => exact ⟨_, i + 1, rfl, by go_num, by omega, R.2, by rw [fl_next HI.out (show fl x (true, n) = bits .and .i64 (bits .xor .i64 n x) 65535 from rfl), ← HT.out]; exact R.1⟩
        case measure => simp only [intOf]; omega
    · have e : i = l.length := by omega
      have HO := Lib.hid (show OwnInts wr W0.heap.size v (l.map (fl x)) by rw [e, List.take_length] at hown; exact hown)
      clear e hown hnx
      go_wp2
      go_ret
      exact ⟨_, rfl, OwnInts.mono HO.out (by omega), HB0.out.trans (NX.out.mono (by omega))⟩

end Go.Proofs.Ytlandkindbmbfaa
