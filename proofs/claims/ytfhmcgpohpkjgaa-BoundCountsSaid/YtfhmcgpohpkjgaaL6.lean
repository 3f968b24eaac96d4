/-
  The walk of the law BoundCounts: it returns true and leaves what was in memory. Conditions: int bounds.
-/
import Derived.Test.YtfhmcgpohpkjgaaL5
import Derived.Test.YtfhmcgpohpkjgaaW11
namespace Go.Proofs.Ytfhmcgpohpkjgaa
open Go.RowKit Plain

theorem Try.info9 : (Try.prog.info? 9).map (fun i => (i.zero, i.size, i.bytes)) = some (some (.string ByteArray.empty), 1, 16) := by kernel_rfl

theorem lists_all (i j : Nat) (hi : i < 6) (hj : j < 5) (w : World) :
    Calls Try.prog 40 #[.int .i64 (i : Int), .int .i64 (j : Int)] w fun e w' => e = .returned (.int .u64 ((i ^ j : Nat) : Int)) ∧ Below w.heap.size w w' := by
  by_cases h0 : i = 0
  · subst h0
    by_cases h1 : j = 0
    · subst h1
      exact (lists_none w).mono fun e w' h => ⟨by rw [h.1]; rfl, h.2⟩
    · exact (lists_zero j (by omega) hj w).mono fun e w' h => ⟨by rw [h.1, Nat.zero_pow (by omega)]; rfl, h.2⟩
  · exact lists_any i j (by omega) hi hj w

theorem small_pow {i j : Nat} (hi : i < 6) (hj : j < 5) : i ^ j < 18446744073709551616 :=
  Nat.lt_of_le_of_lt (Nat.le_trans (Nat.pow_le_pow_left (show i ≤ 5 by omega) j) (Nat.pow_le_pow_right (by omega) (show j ≤ 4 by omega))) (by decide)

set_option maxRecDepth 100000 in
set_option maxHeartbeats 1600000 in
theorem counts_walk (d : Int) (hd : -9223372036854775808 ≤ d ∧ d ≤ 9223372036854775807) (n : Int) (hn : -9223372036854775808 ≤ n ∧ n ≤ 9223372036854775807) (w : World) :
    Calls Try.prog 14 #[.int .i64 d, .int .i64 n] w fun e w' => e = .returned (.bool true) ∧ Below w.heap.size w w' := by
  obtain ⟨i9, hi9, hy0, hy1, hy2⟩ := info_parts Try.info9
  go_enter Try.func14, Try.ntmps14
  go_wp2_with fail
  refine (mod_any d 6 (by omega) w).mono ?_
  rintro e w' ⟨i, rfl, hi, rfl⟩
  have hi' : i < 6 := by omega
  clear hi
  go_wp2_with fail
  refine (mod_any n 5 (by omega) w).mono ?_
  rintro e w' ⟨j, rfl, hj, rfl⟩
  have hj' : j < 5 := by omega
  clear hj
  obtain ⟨X, hX⟩ : ∃ X, i ^ j = X := ⟨_, rfl⟩
  have hp := small_pow hi' hj'
  have HP := Lib.hid (show sat (i ^ j) = X by rw [sat_of_lt hp, hX])
  have HX := Lib.hid hX
  clear hX hp
  go_wp2_with fail
  refine (lists_all i j hi' hj' w).mono ?_
  rintro e w1 ⟨rfl, hb1⟩
  rw [HX.out]
  have hz1 := hb1.size
  go_wp2_with (at_make; refine wpList_make_full _ rfl _ _ 56 rfl w1.heap.size 9 i9 (.string ByteArray.empty) 1 Try.underlying56 hi9 hy0 hy1 .i64 .i64 _ _ j rfl rfl rfl rfl (by rw [hy2]; omega) (by unfold maxLen; omega) (Nat.le_refl _) ?_; intro w2 hown2 hgrow2; clear hown2)
  have hb2 : Below w1.heap.size w1 w2 := (Below.refl _ _).grown hgrow2 (Nat.le_refl _) (fun k hk => by cases hk)
  have hz2 := hb2.size
  clear hgrow2
  refine (pow_to i j X (by omega) (by omega) HP.out _).mono ?_
  rintro e w' ⟨rfl, rfl⟩
  go_wp2_with fail
  generalize hW : ((((w2.alloc (.cells #[.int .i64 0, .slice none 0 0, .slice none 0 0, .slice none 0 0, .slice none 0 0, .slice (some ⟨w1.heap.size, 0, none⟩) j j, .int .i64 0] 63)).alloc
    (.cells #[.int .i64 0, .int .i64 0, .int .i64 0, .slice none 0 0, .slice none 0 0, .int .i64 0, .bool false, .int .i64 0, .bool false, .int .i64 0, .int .i64 3, .int .i64 1, .int .i64 0, .int .i64 0, .slice none 0 0, .slice none 0 0, .int .i64 0, .bool false, .int .i64 0, .bool false, .int .i64 0, .int .i64 (j : Int)] 70)).alloc
    (.cells #[.slice none 0 0, .slice (some ⟨w2.heap.size + 1, 0, none⟩) 2 2, .slice none 0 0] 37)).alloc
    (.cells #[.int .i64 0, .slice none 0 0, .slice none 0 0, .slice none 0 0, .slice none 0 0, .slice (some ⟨w1.heap.size, 0, none⟩) j j, .int .i64 0] 63)) = wd
  have hwd : w2.heap.size + 4 = wd.heap.size := by rw [← hW]; simp
  have hbd : Below w.heap.size w wd := by
    rw [← hW]
    exact hb1.trans ((hb2.mono hz1).trans (((((Below.refl _ _).alloc (by omega) _).alloc (by simp; omega) _).alloc (by simp; omega) _).alloc (by simp; omega) _))
  have hru : RulesAt wd wd.heap.size (.slice (some ⟨w2.heap.size + 1 + 1 + 1, 0, none⟩) 1 1) [j] := by
    refine ⟨_, 1, rfl, .inr ⟨w2.heap.size + 1 + 1 + 1, 0, rfl, by omega, fun t ht => ?_⟩⟩
    obtain rfl : t = 0 := by simp at ht; omega
    have e : ∀ k, wd.cell? ⟨w2.heap.size + 1 + 1 + 1, k, none⟩ =
        (#[Value.int .i64 0, .slice none 0 0, .slice none 0 0, .slice none 0 0, .slice none 0 0, .slice (some ⟨w1.heap.size, 0, none⟩) j j, .int .i64 0] : Array Value)[k]? := fun k => by
      rw [← hW]; exact World.cell?_alloc_at _ _ _ _ (by simp)
    exact ⟨0, 0, none, none, none, none, _, 0, 0, 0, 0, 0, 0, 0, 0, j, e _, e _, e _, e _, e _, e _, e _⟩
  have hpl : ∀ k, wd.cell? ⟨w2.heap.size + 1 + 1, k, none⟩ = (#[Value.slice none 0 0, .slice (some ⟨w2.heap.size + 1, 0, none⟩) 2 2, .slice none 0 0] : Array Value)[k]? := fun k => by
    rw [← hW, World.cell?_alloc_past _ _ _ (by simp)]; exact World.cell?_alloc_at _ _ _ _ (by simp)
  have hnd : ∀ k, wd.cell? ⟨w2.heap.size + 1, k, none⟩ = (#[Value.int .i64 0, .int .i64 0, .int .i64 0, .slice none 0 0, .slice none 0 0, .int .i64 0, .bool false, .int .i64 0, .bool false, .int .i64 0, .int .i64 3, .int .i64 1, .int .i64 0, .int .i64 0, .slice none 0 0, .slice none 0 0, .int .i64 0, .bool false, .int .i64 0, .bool false, .int .i64 0, .int .i64 (j : Int)] : Array Value)[k]? := fun k => by
    rw [← hW, World.cell?_alloc_past _ _ _ (by simp), World.cell?_alloc_past _ _ _ (by simp)]; exact World.cell?_alloc_at _ _ _ _ (by simp)
  clear hW
  have hnt : NodesAt wd wd.heap.size (.slice (some ⟨w2.heap.size + 1, 0, none⟩) 2 2) [(0, 3), (1, (j : Int))] := by
    refine ⟨_, 2, rfl, .inr ⟨w2.heap.size + 1, 0, rfl, by omega, fun t ht => ?_⟩⟩
    match t, ht with
    | 0, _ => exact ⟨0, 0, 0, 0, 0, false, false, none, none, 0, 0, 0, 0, hnd _, hnd _, hnd _, hnd _, hnd _, hnd _, hnd _, hnd _, hnd _, hnd _, hnd _⟩
    | 1, _ => exact ⟨0, 0, 0, 0, 0, false, false, none, none, 0, 0, 0, 0, hnd _, hnd _, hnd _, hnd _, hnd _, hnd _, hnd _, hnd _, hnd _, hnd _, hnd _⟩
  have p0 := hpl 0
  have p1 := hpl 1
  have p2 := hpl 2
  simp at p0 p1 p2
  clear hnd hpl
  have HF := Lib.hid (show sat (fsum i [j]) = X by simp [fsum, sat_sat]; exact HP.out)
  have HT := Lib.hid (show sat (tsum i [(0, 3), (1, (j : Int))]) = X by simp [tsum, tval, sat_sat]; exact HP.out)
  have HI := Lib.hid (show IntIs (i : Int) i from .inl ⟨rfl, by omega⟩)
  have hvj : Vars [j] := fun t => by
    match t with
    | 0 => simp; omega
    | t + 1 => simp
  have hwj : Wid [(0, 3), (1, (j : Int))] := fun t => by
    match t with
    | 0 => simp
    | 1 => simp; omega
    | t + 2 => simp
  refine (firings_any (i : Int) i HI.out [j] _ wd hru hvj (by simp)).mono ?_
  rintro e w3 ⟨rfl, hb3⟩
  rw [HF.out]
  have hz3 := hb3.size
  have q0 := (hb3.cell (p := ⟨w2.heap.size + 1 + 1, 0, none⟩) (show w2.heap.size + 1 + 1 < wd.heap.size by omega)).trans p0
  have q1 := (hb3.cell (p := ⟨w2.heap.size + 1 + 1, 1, none⟩) (show w2.heap.size + 1 + 1 < wd.heap.size by omega)).trans p1
  have q2 := (hb3.cell (p := ⟨w2.heap.size + 1 + 1, 2, none⟩) (show w2.heap.size + 1 + 1 < wd.heap.size by omega)).trans p2
  have hn3 := (hnt.below hb3).mono hz3
  clear p0 p1 p2
  go_wp2_with fail
  refine (tokens_any (i : Int) i HI.out [(0, 3), (1, (j : Int))] _ _ _ w3 nil3 nil3 hn3 hwj (by simp)).mono ?_
  rintro e w4 ⟨rfl, hb4⟩
  rw [HT.out]
  clear q0 q1 q2
  go_wp2
  go_ret
  exact ⟨rfl, hbd.trans ((hb3.mono (by have := hbd.size; omega)).trans (hb4.mono (by have := hbd.size; omega)))⟩

end Go.Proofs.Ytfhmcgpohpkjgaa
