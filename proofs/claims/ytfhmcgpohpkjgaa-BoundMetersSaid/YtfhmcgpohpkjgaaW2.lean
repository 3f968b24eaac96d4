/-
  The walks of edictref09's long numbers: of, plus, times, cut: each result is a row of digits of the call's own that has the value which the plain arithmetic says; what was in memory stays as it was. Conditions: arguments are uint64 values, rows of digits below 65536, not longer than some 2^40.
-/
import Derived.Test.YtfhmcgpohpkjgaaW1
import Derived.Lib.SmallJoins
import Derived.Deep.QuietTactic
import Derived.BigQuiet
import Derived.Deep.Onto
namespace Go.Proofs.Ytfhmcgpohpkjgaa
open Go.RowKit Plain

/-- The cells of a row of digits. -/
def dig (l : List Nat) : List Value := l.map fun (d : Nat) => Value.int .u64 (d : Int)
theorem dig_length (l : List Nat) : (dig l).length = l.length := List.length_map _
theorem dig_snoc (l : List Nat) (d : Nat) : dig (l ++ [d]) = dig l ++ [.int .u64 (d : Int)] := by simp [dig]
theorem dig_get (l : List Nat) (i : Nat) (h : i < l.length) : (dig l)[i]? = some (.int .u64 ((l[i]?.getD 0 : Nat) : Int)) := by
  simp [dig, List.getElem?_eq_getElem h]

/-- A slice value that reads as the digits l: nil, or a row from some block's head on. -/
def Reads (w : World) (B : Nat) (v : Value) (l : List Nat) : Prop :=
  (v = .slice none 0 0 ∧ l = []) ∨ ∃ g cap, v = .slice (some ⟨g, 0, none⟩) l.length cap ∧ g < B ∧ ∀ j, j < l.length → w.cell? ⟨g, j, none⟩ = some (.int .u64 ((l[j]?.getD 0 : Nat) : Int))

/-- The post of the functions that make a long number. -/
def BigIs (w : World) (n k : Nat) (e : Ending) (w' : World) : Prop :=
  ∃ (v : Value) (l : List Nat), e = .returned v ∧ w'.ownsRow w.heap.size 22 1 v l.length (dig l) ∧ Below w.heap.size w w' ∧ Dig l ∧ val l = n ∧ l.length ≤ k

theorem reads_of_owns {w : World} {B : Nat} {v : Value} {l : List Nat} (h : w.ownsRow B 22 1 v l.length (dig l)) : Reads w w.heap.size v l := by
  rcases Joins.ownsRow_forms h with ⟨rfl, h0⟩ | ⟨g, cap, rfl⟩
  · exact .inl ⟨rfl, List.length_eq_zero_iff.1 h0⟩
  · refine .inr ⟨g, cap, rfl, (h.lt g rfl).2, fun j hj => ?_⟩
    rw [h.cellAt j (by omega)]; exact dig_get l j hj
theorem Reads.below {w w' : World} {B : Nat} {v : Value} {l : List Nat} (h : Reads w B v l) (hb : Below B w w') : Reads w' B v l := by
  rcases h with ⟨rfl, rfl⟩ | ⟨g, cap, rfl, hg, hc⟩
  · exact .inl ⟨rfl, rfl⟩
  · exact .inr ⟨g, cap, rfl, hg, fun j hj => (hb.cell (p := ⟨g, j, none⟩) hg).trans (hc j hj)⟩
theorem Reads.mono {w : World} {B B' : Nat} {v : Value} {l : List Nat} (h : Reads w B v l) (hb : B ≤ B') : Reads w B' v l := by
  rcases h with ⟨rfl, rfl⟩ | ⟨g, cap, rfl, hg, hc⟩
  · exact .inl ⟨rfl, rfl⟩
  · exact .inr ⟨g, cap, rfl, by omega, hc⟩

theorem Try.info22 : (Try.prog.info? 22).map (fun i => (i.zero, i.size, i.bytes)) = some (some (.int .u64 0), 1, 8) := by kernel_rfl

theorem one_u64 (x : Int) : ∀ u ∈ [Value.int .u64 x], u.oneCell' = true := by intro u hu; simp at hu; subst hu; rfl

/-- What one append of a digit does to the relation. -/
theorem rel_snoc {B : Nat} {w wr w1 : World} {v v' : Value} {l : List Nat} {x : Int} (d : Nat) {o : Obj} (hx : x = (d : Int)) (hB : B ≤ wr.heap.size)
    (hown : wr.ownsRow B 22 1 v l.length (dig l)) (hnx : Below B w wr)
    (hown' : w1.ownsRow B 22 1 v' (l.length + 1) (dig l ++ [.int .u64 x])) (hgrow : (wr.alloc o).grownBy w1 v.ownBlock) :
    w1.ownsRow B 22 1 v' (l ++ [d]).length (dig (l ++ [d])) ∧ Below B w w1 := by
  subst hx
  refine ⟨by rw [dig_snoc, List.length_append, List.length_singleton]; exact hown', ?_⟩
  exact (hnx.alloc hB o).grown hgrow (by simp; omega) (fun j hj => (hown.lt j hj).1)

def OfRel (w : World) (n : Nat) (x v : Value) (wr : World) : Prop :=
  ∃ (l : List Nat) (a : Nat), x = .int .u64 (a : Int) ∧ a < 18446744073709551616 ∧ wr.ownsRow w.heap.size 22 1 v l.length (dig l) ∧ Below w.heap.size w wr ∧ OfInv n l a

set_option maxHeartbeats 800000 in
theorem of_any (a : Nat) (ha : a < 18446744073709551616) (w : World) :
    Calls Try.prog 44 #[.int .u64 (a : Int)] w (BigIs w a 4) := by
  obtain ⟨i0, hi, hz0, hz1, hz2⟩ := info_parts Try.info22
  have hst := OfInv.start ha
  have HST := Lib.hid hst
  clear hst
  go_enter Try.func44, Try.ntmps44
  go_wp2
  go_loopw [0, 3] (fun x v wr => OfRel w a x v wr) (fun x _ _ => (intOf x).toNat)
  case atStart => exact ⟨[], a, rfl, ha, World.ownsRow_nil _ _ _ _, Below.refl _ _, HST.out⟩
  case round =>
    obtain ⟨l, b, rfl, hb, hown, hnx, hI⟩ := hrel
    have HI := Lib.hid hI
    have hsz := hnx.size
    by_cases hpos : 0 < b
    · have hl := hI.len hpos
      clear hI
      go_wp2_with (at_builtin; refine wpList_append_own _ rfl _ _ 78 rfl w.heap.size 22 i0 (.int .u64 0) 1 8 Try.underlying78 hi hz0 hz1 hz2 rfl (by decide) _ _ _ rfl (hown.alloc _) ⟨wr.heap.size, 0, none⟩ 1 1 [.int .u64 ((b : Int) % 65536)] rfl rfl (cell_one_new _ _ _) (one_u64 _) (by unfold maxLen; omega) (by omega) (by simp; omega) ?_; intro v' w1 hown' hgrow _)
      have R := rel_snoc (b % 65536) (by omega) hsz hown hnx hown' hgrow
      go_roundw
      case rel => exact ⟨l ++ [b % 65536], b / 65536, by go_num, by omega, R.1, R.2, HI.out.round hpos⟩
      case measure => simp [intOf]; omega
    · obtain rfl : b = 0 := by omega
      clear hI
      go_wp2
      go_ret
      have hs := HI.out.stop
      exact ⟨_, l, rfl, hown, hnx, hs.1, hs.2.1, hs.2.2⟩

def PlusRel (w : World) (a b : List Nat) (v c k : Value) (wr : World) : Prop :=
  ∃ (l : List Nat) (x i : Nat), c = .int .u64 (x : Int) ∧ k = .int .i64 (i : Int) ∧ wr.ownsRow w.heap.size 22 1 v l.length (dig l) ∧ Below w.heap.size w wr ∧ PlusInv a b i l x

set_option maxRecDepth 100000 in
set_option maxHeartbeats 4000000 in
theorem plus_any (a b : List Nat) (v u : Value) (w : World) (hv : Reads w w.heap.size v a) (hu : Reads w w.heap.size u b) (ha : Dig a) (hb : Dig b)
    (la : a.length ≤ 17592186044400) (lb : b.length ≤ 17592186044400) :
    Calls Try.prog 43 #[v, u] w (BigIs w (val a + val b) (max a.length b.length + 1)) := by
  obtain ⟨i0, hi, hz0, hz1, hz2⟩ := info_parts Try.info22
  rcases hv with ⟨rfl, e⟩ | ⟨ga, ca, rfl, hga, hca⟩ <;> rcases hu with ⟨rfl, f⟩ | ⟨gb, cb, rfl, hgb, hcb⟩
  · subst e; subst f; skip
    clear la
    clear lb
    go_enter Try.func43, Try.ntmps43
    go_wp2
    go_loopw [5, 6, 7] (fun v c k wr => PlusRel w [] [] v c k wr) (fun _ _ k _ => max 0 0 + 1 - (intOf k).toNat)
    case atStart => exact ⟨[], 0, 0, rfl, rfl, World.ownsRow_nil _ _ _ _, Below.refl _ _, PlusInv.start _ _⟩
    case round =>
      obtain ⟨l, x, i, rfl, rfl, hown, hnx, hI⟩ := hrel
      have hsz := hnx.size
      have hle : i ≤ max 0 0 + 1 := hI.le
      have hx1 : x ≤ 1 := hI.2.2.1
      have hll : l.length = i := hI.1
      have da := ha i
      have db := hb i
      obtain ⟨p, hp⟩ : ∃ p : Nat, p = ([] : List Nat)[i]?.getD 0 := ⟨_, rfl⟩
      obtain ⟨q, hq⟩ : ∃ q : Nat, q = ([] : List Nat)[i]?.getD 0 := ⟨_, rfl⟩
      have RS := fun hc => Lib.hid (hI.round' hp hq ha hb hc)
      have RT := fun hc => (show i + 1 ≤ max 0 0 + 1 from (hI.round' hp hq ha hb hc).le)
      have hib : i ≤ 17592186044402 := by omega
      have HI := Lib.hid hI
      clear hI
      have dp : p < 65536 := by rw [hp]; exact da
      have dq : q < 65536 := by rw [hq]; exact db
      clear da db
      have HL := Lib.hid hll; clear hll
      have hlb : l.length ≤ 17592186044402 := by have := HL.out; omega
      have h1 : ¬ i < ([] : List Nat).length := by simp
      have h2 : ¬ i < ([] : List Nat).length := by simp
      by_cases h3 : 0 < x
      · skip
        obtain rfl : p = 0 := by rw [hp]; exact getD_ge h1
        obtain rfl : q = 0 := by rw [hq]; exact getD_ge h2
        clear hp hq
        have RS' := RS (.inr (.inr h3)); have RT' := RT (.inr (.inr h3)); clear RS RT
        have hcond : i < max 0 0 + 1 := by omega
        go_wp2_with (at_builtin; refine wpList_append_own _ rfl _ _ 78 rfl w.heap.size 22 i0 (.int .u64 0) 1 8 Try.underlying78 hi hz0 hz1 hz2 rfl (by decide) _ _ _ rfl (hown.alloc _) ⟨wr.heap.size, 0, none⟩ 1 1 [.int .u64 (((x : Int)) % 65536)] rfl rfl (cell_one_new _ _ _) (one_u64 _) (by unfold maxLen; omega) (by omega) (by simp; omega) ?_; intro v' w1 hown' hgrow _)
        have R := rel_snoc ((x + 0 + 0) % 65536) (by omega) hsz hown hnx hown' hgrow
        go_roundw
        case rel => exact ⟨_, (x + 0 + 0) / 65536, i + 1, by go_num, by go_num, R.1, R.2, RS'.out⟩
        case measure => simp only [intOf]; omega
      · skip
        obtain rfl : p = 0 := by rw [hp]; exact getD_ge h1
        obtain rfl : q = 0 := by rw [hq]; exact getD_ge h2
        clear hp hq
        obtain rfl : x = 0 := by omega
        have hs := Lib.hid (HI.out.stop h1 h2)
        clear HI RS RT
        go_wp2
        go_ret
        exact ⟨_, l, rfl, hown, hnx, hs.out.1, hs.out.2.1, hs.out.2.2⟩
  · subst e; skip
    clear la
    go_enter Try.func43, Try.ntmps43
    go_wp2
    go_loopw [5, 6, 7] (fun v c k wr => PlusRel w [] b v c k wr) (fun _ _ k _ => max 0 b.length + 1 - (intOf k).toNat)
    case atStart => exact ⟨[], 0, 0, rfl, rfl, World.ownsRow_nil _ _ _ _, Below.refl _ _, PlusInv.start _ _⟩
    case round =>
      obtain ⟨l, x, i, rfl, rfl, hown, hnx, hI⟩ := hrel
      have hsz := hnx.size
      have hle : i ≤ max 0 b.length + 1 := hI.le
      have hx1 : x ≤ 1 := hI.2.2.1
      have hll : l.length = i := hI.1
      have da := ha i
      have db := hb i
      obtain ⟨p, hp⟩ : ∃ p : Nat, p = ([] : List Nat)[i]?.getD 0 := ⟨_, rfl⟩
      obtain ⟨q, hq⟩ : ∃ q : Nat, q = (b : List Nat)[i]?.getD 0 := ⟨_, rfl⟩
      have RS := fun hc => Lib.hid (hI.round' hp hq ha hb hc)
      have RT := fun hc => (show i + 1 ≤ max 0 b.length + 1 from (hI.round' hp hq ha hb hc).le)
      have hib : i ≤ 17592186044402 := by omega
      have HI := Lib.hid hI
      clear hI
      have dp : p < 65536 := by rw [hp]; exact da
      have dq : q < 65536 := by rw [hq]; exact db
      clear da db
      have HL := Lib.hid hll; clear hll
      have hlb : l.length ≤ 17592186044402 := by have := HL.out; omega
      have h1 : ¬ i < ([] : List Nat).length := by simp
      by_cases h2 : i < b.length
      · skip
        by_cases h3 : 0 < x
        · skip
          obtain rfl : p = 0 := by rw [hp]; exact getD_ge h1
          have hB : wr.cell? ⟨gb, i, none⟩ = some (.int .u64 (q : Int)) := by rw [hq]; exact (hnx.cell (p := ⟨gb, i, none⟩) hgb).trans (hcb i h2)
          clear hp hq
          have RS' := RS (.inr (.inl h2)); have RT' := RT (.inr (.inl h2)); clear RS RT
          have hcond : i < max 0 b.length + 1 := by omega
          go_wp2_with (at_builtin; refine wpList_append_own _ rfl _ _ 78 rfl w.heap.size 22 i0 (.int .u64 0) 1 8 Try.underlying78 hi hz0 hz1 hz2 rfl (by decide) _ _ _ rfl (hown.alloc _) ⟨wr.heap.size, 0, none⟩ 1 1 [.int .u64 (((x : Int) + (q : Int)) % 65536)] rfl rfl (cell_one_new _ _ _) (one_u64 _) (by unfold maxLen; omega) (by omega) (by simp; omega) ?_; intro v' w1 hown' hgrow _)
          have R := rel_snoc ((x + 0 + q) % 65536) (by omega) hsz hown hnx hown' hgrow
          go_roundw
          case rel => exact ⟨_, (x + 0 + q) / 65536, i + 1, by go_num, by go_num, R.1, R.2, RS'.out⟩
          case measure => simp only [intOf]; omega
        · skip
          obtain rfl : p = 0 := by rw [hp]; exact getD_ge h1
          have hB : wr.cell? ⟨gb, i, none⟩ = some (.int .u64 (q : Int)) := by rw [hq]; exact (hnx.cell (p := ⟨gb, i, none⟩) hgb).trans (hcb i h2)
          clear hp hq
          obtain rfl : x = 0 := by omega
          have RS' := RS (.inr (.inl h2)); have RT' := RT (.inr (.inl h2)); clear RS RT
          have hcond : i < max 0 b.length + 1 := by omega
          go_wp2_with (at_builtin; refine wpList_append_own _ rfl _ _ 78 rfl w.heap.size 22 i0 (.int .u64 0) 1 8 Try.underlying78 hi hz0 hz1 hz2 rfl (by decide) _ _ _ rfl (hown.alloc _) ⟨wr.heap.size, 0, none⟩ 1 1 [.int .u64 (((q : Int)) % 65536)] rfl rfl (cell_one_new _ _ _) (one_u64 _) (by unfold maxLen; omega) (by omega) (by simp; omega) ?_; intro v' w1 hown' hgrow _)
          have R := rel_snoc ((0 + 0 + q) % 65536) (by omega) hsz hown hnx hown' hgrow
          go_roundw
          case rel => exact ⟨_, (0 + 0 + q) / 65536, i + 1, by go_num, by go_num, R.1, R.2, RS'.out⟩
          case measure => simp only [intOf]; omega
      · skip
        by_cases h3 : 0 < x
        · skip
          obtain rfl : p = 0 := by rw [hp]; exact getD_ge h1
          obtain rfl : q = 0 := by rw [hq]; exact getD_ge h2
          clear hp hq
          have RS' := RS (.inr (.inr h3)); have RT' := RT (.inr (.inr h3)); clear RS RT
          have hcond : i < max 0 b.length + 1 := by omega
          go_wp2_with (at_builtin; refine wpList_append_own _ rfl _ _ 78 rfl w.heap.size 22 i0 (.int .u64 0) 1 8 Try.underlying78 hi hz0 hz1 hz2 rfl (by decide) _ _ _ rfl (hown.alloc _) ⟨wr.heap.size, 0, none⟩ 1 1 [.int .u64 (((x : Int)) % 65536)] rfl rfl (cell_one_new _ _ _) (one_u64 _) (by unfold maxLen; omega) (by omega) (by simp; omega) ?_; intro v' w1 hown' hgrow _)
          have R := rel_snoc ((x + 0 + 0) % 65536) (by omega) hsz hown hnx hown' hgrow
          go_roundw
          case rel => exact ⟨_, (x + 0 + 0) / 65536, i + 1, by go_num, by go_num, R.1, R.2, RS'.out⟩
          case measure => simp only [intOf]; omega
        · skip
          obtain rfl : p = 0 := by rw [hp]; exact getD_ge h1
          obtain rfl : q = 0 := by rw [hq]; exact getD_ge h2
          clear hp hq
          obtain rfl : x = 0 := by omega
          have hs := Lib.hid (HI.out.stop h1 h2)
          clear HI RS RT
          go_wp2
          go_ret
          exact ⟨_, l, rfl, hown, hnx, hs.out.1, hs.out.2.1, hs.out.2.2⟩
  · subst f; skip
    clear lb
    go_enter Try.func43, Try.ntmps43
    go_wp2
    go_loopw [5, 6, 7] (fun v c k wr => PlusRel w a [] v c k wr) (fun _ _ k _ => max a.length 0 + 1 - (intOf k).toNat)
    case atStart => exact ⟨[], 0, 0, rfl, rfl, World.ownsRow_nil _ _ _ _, Below.refl _ _, PlusInv.start _ _⟩
    case round =>
      obtain ⟨l, x, i, rfl, rfl, hown, hnx, hI⟩ := hrel
      have hsz := hnx.size
      have hle : i ≤ max a.length 0 + 1 := hI.le
      have hx1 : x ≤ 1 := hI.2.2.1
      have hll : l.length = i := hI.1
      have da := ha i
      have db := hb i
      obtain ⟨p, hp⟩ : ∃ p : Nat, p = (a : List Nat)[i]?.getD 0 := ⟨_, rfl⟩
      obtain ⟨q, hq⟩ : ∃ q : Nat, q = ([] : List Nat)[i]?.getD 0 := ⟨_, rfl⟩
      have RS := fun hc => Lib.hid (hI.round' hp hq ha hb hc)
      have RT := fun hc => (show i + 1 ≤ max a.length 0 + 1 from (hI.round' hp hq ha hb hc).le)
      have hib : i ≤ 17592186044402 := by omega
      have HI := Lib.hid hI
      clear hI
      have dp : p < 65536 := by rw [hp]; exact da
      have dq : q < 65536 := by rw [hq]; exact db
      clear da db
      have HL := Lib.hid hll; clear hll
      have hlb : l.length ≤ 17592186044402 := by have := HL.out; omega
      by_cases h1 : i < a.length
      · skip
        have h2 : ¬ i < ([] : List Nat).length := by simp
        by_cases h3 : 0 < x
        · skip
          have hA : wr.cell? ⟨ga, i, none⟩ = some (.int .u64 (p : Int)) := by rw [hp]; exact (hnx.cell (p := ⟨ga, i, none⟩) hga).trans (hca i h1)
          obtain rfl : q = 0 := by rw [hq]; exact getD_ge h2
          clear hp hq
          have RS' := RS (.inl h1); have RT' := RT (.inl h1); clear RS RT
          have hcond : i < max a.length 0 + 1 := by omega
          go_wp2_with (at_builtin; refine wpList_append_own _ rfl _ _ 78 rfl w.heap.size 22 i0 (.int .u64 0) 1 8 Try.underlying78 hi hz0 hz1 hz2 rfl (by decide) _ _ _ rfl (hown.alloc _) ⟨wr.heap.size, 0, none⟩ 1 1 [.int .u64 (((x : Int) + (p : Int)) % 65536)] rfl rfl (cell_one_new _ _ _) (one_u64 _) (by unfold maxLen; omega) (by omega) (by simp; omega) ?_; intro v' w1 hown' hgrow _)
          have R := rel_snoc ((x + p + 0) % 65536) (by omega) hsz hown hnx hown' hgrow
          go_roundw
          case rel => exact ⟨_, (x + p + 0) / 65536, i + 1, by go_num, by go_num, R.1, R.2, RS'.out⟩
          case measure => simp only [intOf]; omega
        · skip
          have hA : wr.cell? ⟨ga, i, none⟩ = some (.int .u64 (p : Int)) := by rw [hp]; exact (hnx.cell (p := ⟨ga, i, none⟩) hga).trans (hca i h1)
          obtain rfl : q = 0 := by rw [hq]; exact getD_ge h2
          clear hp hq
          obtain rfl : x = 0 := by omega
          have RS' := RS (.inl h1); have RT' := RT (.inl h1); clear RS RT
          have hcond : i < max a.length 0 + 1 := by omega
          go_wp2_with (at_builtin; refine wpList_append_own _ rfl _ _ 78 rfl w.heap.size 22 i0 (.int .u64 0) 1 8 Try.underlying78 hi hz0 hz1 hz2 rfl (by decide) _ _ _ rfl (hown.alloc _) ⟨wr.heap.size, 0, none⟩ 1 1 [.int .u64 (((p : Int)) % 65536)] rfl rfl (cell_one_new _ _ _) (one_u64 _) (by unfold maxLen; omega) (by omega) (by simp; omega) ?_; intro v' w1 hown' hgrow _)
          have R := rel_snoc ((0 + p + 0) % 65536) (by omega) hsz hown hnx hown' hgrow
          go_roundw
          case rel => exact ⟨_, (0 + p + 0) / 65536, i + 1, by go_num, by go_num, R.1, R.2, RS'.out⟩
          case measure => simp only [intOf]; omega
      · skip
        have h2 : ¬ i < ([] : List Nat).length := by simp
        by_cases h3 : 0 < x
        · skip
          obtain rfl : p = 0 := by rw [hp]; exact getD_ge h1
          obtain rfl : q = 0 := by rw [hq]; exact getD_ge h2
          clear hp hq
          have RS' := RS (.inr (.inr h3)); have RT' := RT (.inr (.inr h3)); clear RS RT
          have hcond : i < max a.length 0 + 1 := by omega
          go_wp2_with (at_builtin; refine wpList_append_own _ rfl _ _ 78 rfl w.heap.size 22 i0 (.int .u64 0) 1 8 Try.underlying78 hi hz0 hz1 hz2 rfl (by decide) _ _ _ rfl (hown.alloc _) ⟨wr.heap.size, 0, none⟩ 1 1 [.int .u64 (((x : Int)) % 65536)] rfl rfl (cell_one_new _ _ _) (one_u64 _) (by unfold maxLen; omega) (by omega) (by simp; omega) ?_; intro v' w1 hown' hgrow _)
          have R := rel_snoc ((x + 0 + 0) % 65536) (by omega) hsz hown hnx hown' hgrow
          go_roundw
          case rel => exact ⟨_, (x + 0 + 0) / 65536, i + 1, by go_num, by go_num, R.1, R.2, RS'.out⟩
          case measure => simp only [intOf]; omega
        · skip
          obtain rfl : p = 0 := by rw [hp]; exact getD_ge h1
          obtain rfl : q = 0 := by rw [hq]; exact getD_ge h2
          clear hp hq
          obtain rfl : x = 0 := by omega
          have hs := Lib.hid (HI.out.stop h1 h2)
          clear HI RS RT
          go_wp2
          go_ret
          exact ⟨_, l, rfl, hown, hnx, hs.out.1, hs.out.2.1, hs.out.2.2⟩
  · skip
    go_enter Try.func43, Try.ntmps43
    go_wp2
    go_loopw [5, 6, 7] (fun v c k wr => PlusRel w a b v c k wr) (fun _ _ k _ => max a.length b.length + 1 - (intOf k).toNat)
    case atStart => exact ⟨[], 0, 0, rfl, rfl, World.ownsRow_nil _ _ _ _, Below.refl _ _, PlusInv.start _ _⟩
    case round =>
      obtain ⟨l, x, i, rfl, rfl, hown, hnx, hI⟩ := hrel
      have hsz := hnx.size
      have hle : i ≤ max a.length b.length + 1 := hI.le
      have hx1 : x ≤ 1 := hI.2.2.1
      have hll : l.length = i := hI.1
      have da := ha i
      have db := hb i
      obtain ⟨p, hp⟩ : ∃ p : Nat, p = (a : List Nat)[i]?.getD 0 := ⟨_, rfl⟩
      obtain ⟨q, hq⟩ : ∃ q : Nat, q = (b : List Nat)[i]?.getD 0 := ⟨_, rfl⟩
      have RS := fun hc => Lib.hid (hI.round' hp hq ha hb hc)
      have RT := fun hc => (show i + 1 ≤ max a.length b.length + 1 from (hI.round' hp hq ha hb hc).le)
      have hib : i ≤ 17592186044402 := by omega
      have HI := Lib.hid hI
      clear hI
      have dp : p < 65536 := by rw [hp]; exact da
      have dq : q < 65536 := by rw [hq]; exact db
      clear da db
      have HL := Lib.hid hll; clear hll
      have hlb : l.length ≤ 17592186044402 := by have := HL.out; omega
      by_cases h1 : i < a.length
      · skip
        by_cases h2 : i < b.length
        · skip
          by_cases h3 : 0 < x
          · skip
            have hA : wr.cell? ⟨ga, i, none⟩ = some (.int .u64 (p : Int)) := by rw [hp]; exact (hnx.cell (p := ⟨ga, i, none⟩) hga).trans (hca i h1)
            have hB : wr.cell? ⟨gb, i, none⟩ = some (.int .u64 (q : Int)) := by rw [hq]; exact (hnx.cell (p := ⟨gb, i, none⟩) hgb).trans (hcb i h2)
            clear hp hq
            have RS' := RS (.inl h1); have RT' := RT (.inl h1); clear RS RT
            have hcond : i < max a.length b.length + 1 := by omega
            go_wp2_with (at_builtin; refine wpList_append_own _ rfl _ _ 78 rfl w.heap.size 22 i0 (.int .u64 0) 1 8 Try.underlying78 hi hz0 hz1 hz2 rfl (by decide) _ _ _ rfl (hown.alloc _) ⟨wr.heap.size, 0, none⟩ 1 1 [.int .u64 (((x : Int) + (p : Int) + (q : Int)) % 65536)] rfl rfl (cell_one_new _ _ _) (one_u64 _) (by unfold maxLen; omega) (by omega) (by simp; omega) ?_; intro v' w1 hown' hgrow _)
            have R := rel_snoc ((x + p + q) % 65536) (by omega) hsz hown hnx hown' hgrow
            go_roundw
            case rel => exact ⟨_, (x + p + q) / 65536, i + 1, by go_num, by go_num, R.1, R.2, RS'.out⟩
            case measure => simp only [intOf]; omega
          · skip
            have hA : wr.cell? ⟨ga, i, none⟩ = some (.int .u64 (p : Int)) := by rw [hp]; exact (hnx.cell (p := ⟨ga, i, none⟩) hga).trans (hca i h1)
            have hB : wr.cell? ⟨gb, i, none⟩ = some (.int .u64 (q : Int)) := by rw [hq]; exact (hnx.cell (p := ⟨gb, i, none⟩) hgb).trans (hcb i h2)
            clear hp hq
            obtain rfl : x = 0 := by omega
            have RS' := RS (.inl h1); have RT' := RT (.inl h1); clear RS RT
            have hcond : i < max a.length b.length + 1 := by omega
            go_wp2_with (at_builtin; refine wpList_append_own _ rfl _ _ 78 rfl w.heap.size 22 i0 (.int .u64 0) 1 8 Try.underlying78 hi hz0 hz1 hz2 rfl (by decide) _ _ _ rfl (hown.alloc _) ⟨wr.heap.size, 0, none⟩ 1 1 [.int .u64 (((p : Int) + (q : Int)) % 65536)] rfl rfl (cell_one_new _ _ _) (one_u64 _) (by unfold maxLen; omega) (by omega) (by simp; omega) ?_; intro v' w1 hown' hgrow _)
            have R := rel_snoc ((0 + p + q) % 65536) (by omega) hsz hown hnx hown' hgrow
            go_roundw
            case rel => exact ⟨_, (0 + p + q) / 65536, i + 1, by go_num, by go_num, R.1, R.2, RS'.out⟩
            case measure => simp only [intOf]; omega
        · skip
          by_cases h3 : 0 < x
          · skip
            have hA : wr.cell? ⟨ga, i, none⟩ = some (.int .u64 (p : Int)) := by rw [hp]; exact (hnx.cell (p := ⟨ga, i, none⟩) hga).trans (hca i h1)
            obtain rfl : q = 0 := by rw [hq]; exact getD_ge h2
            clear hp hq
            have RS' := RS (.inl h1); have RT' := RT (.inl h1); clear RS RT
            have hcond : i < max a.length b.length + 1 := by omega
            go_wp2_with (at_builtin; refine wpList_append_own _ rfl _ _ 78 rfl w.heap.size 22 i0 (.int .u64 0) 1 8 Try.underlying78 hi hz0 hz1 hz2 rfl (by decide) _ _ _ rfl (hown.alloc _) ⟨wr.heap.size, 0, none⟩ 1 1 [.int .u64 (((x : Int) + (p : Int)) % 65536)] rfl rfl (cell_one_new _ _ _) (one_u64 _) (by unfold maxLen; omega) (by omega) (by simp; omega) ?_; intro v' w1 hown' hgrow _)
            have R := rel_snoc ((x + p + 0) % 65536) (by omega) hsz hown hnx hown' hgrow
            go_roundw
            case rel => exact ⟨_, (x + p + 0) / 65536, i + 1, by go_num, by go_num, R.1, R.2, RS'.out⟩
            case measure => simp only [intOf]; omega
          · skip
            have hA : wr.cell? ⟨ga, i, none⟩ = some (.int .u64 (p : Int)) := by rw [hp]; exact (hnx.cell (p := ⟨ga, i, none⟩) hga).trans (hca i h1)
            obtain rfl : q = 0 := by rw [hq]; exact getD_ge h2
            clear hp hq
            obtain rfl : x = 0 := by omega
            have RS' := RS (.inl h1); have RT' := RT (.inl h1); clear RS RT
            have hcond : i < max a.length b.length + 1 := by omega
            go_wp2_with (at_builtin; refine wpList_append_own _ rfl _ _ 78 rfl w.heap.size 22 i0 (.int .u64 0) 1 8 Try.underlying78 hi hz0 hz1 hz2 rfl (by decide) _ _ _ rfl (hown.alloc _) ⟨wr.heap.size, 0, none⟩ 1 1 [.int .u64 (((p : Int)) % 65536)] rfl rfl (cell_one_new _ _ _) (one_u64 _) (by unfold maxLen; omega) (by omega) (by simp; omega) ?_; intro v' w1 hown' hgrow _)
            have R := rel_snoc ((0 + p + 0) % 65536) (by omega) hsz hown hnx hown' hgrow
            go_roundw
            case rel => exact ⟨_, (0 + p + 0) / 65536, i + 1, by go_num, by go_num, R.1, R.2, RS'.out⟩
            case measure => simp only [intOf]; omega
      · skip
        by_cases h2 : i < b.length
        · skip
          by_cases h3 : 0 < x
          · skip
            obtain rfl : p = 0 := by rw [hp]; exact getD_ge h1
            have hB : wr.cell? ⟨gb, i, none⟩ = some (.int .u64 (q : Int)) := by rw [hq]; exact (hnx.cell (p := ⟨gb, i, none⟩) hgb).trans (hcb i h2)
            clear hp hq
            have RS' := RS (.inr (.inl h2)); have RT' := RT (.inr (.inl h2)); clear RS RT
            have hcond : i < max a.length b.length + 1 := by omega
            go_wp2_with (at_builtin; refine wpList_append_own _ rfl _ _ 78 rfl w.heap.size 22 i0 (.int .u64 0) 1 8 Try.underlying78 hi hz0 hz1 hz2 rfl (by decide) _ _ _ rfl (hown.alloc _) ⟨wr.heap.size, 0, none⟩ 1 1 [.int .u64 (((x : Int) + (q : Int)) % 65536)] rfl rfl (cell_one_new _ _ _) (one_u64 _) (by unfold maxLen; omega) (by omega) (by simp; omega) ?_; intro v' w1 hown' hgrow _)
            have R := rel_snoc ((x + 0 + q) % 65536) (by omega) hsz hown hnx hown' hgrow
            go_roundw
            case rel => exact ⟨_, (x + 0 + q) / 65536, i + 1, by go_num, by go_num, R.1, R.2, RS'.out⟩
            case measure => simp only [intOf]; omega
          · skip
            obtain rfl : p = 0 := by rw [hp]; exact getD_ge h1
            have hB : wr.cell? ⟨gb, i, none⟩ = some (.int .u64 (q : Int)) := by rw [hq]; exact (hnx.cell (p := ⟨gb, i, none⟩) hgb).trans (hcb i h2)
            clear hp hq
            obtain rfl : x = 0 := by omega
            have RS' := RS (.inr (.inl h2)); have RT' := RT (.inr (.inl h2)); clear RS RT
            have hcond : i < max a.length b.length + 1 := by omega
            go_wp2_with (at_builtin; refine wpList_append_own _ rfl _ _ 78 rfl w.heap.size 22 i0 (.int .u64 0) 1 8 Try.underlying78 hi hz0 hz1 hz2 rfl (by decide) _ _ _ rfl (hown.alloc _) ⟨wr.heap.size, 0, none⟩ 1 1 [.int .u64 (((q : Int)) % 65536)] rfl rfl (cell_one_new _ _ _) (one_u64 _) (by unfold maxLen; omega) (by omega) (by simp; omega) ?_; intro v' w1 hown' hgrow _)
            have R := rel_snoc ((0 + 0 + q) % 65536) (by omega) hsz hown hnx hown' hgrow
            go_roundw
            case rel => exact ⟨_, (0 + 0 + q) / 65536, i + 1, by go_num, by go_num, R.1, R.2, RS'.out⟩
            case measure => simp only [intOf]; omega
        · skip
          by_cases h3 : 0 < x
          · skip
            obtain rfl : p = 0 := by rw [hp]; exact getD_ge h1
            obtain rfl : q = 0 := by rw [hq]; exact getD_ge h2
            clear hp hq
            have RS' := RS (.inr (.inr h3)); have RT' := RT (.inr (.inr h3)); clear RS RT
            have hcond : i < max a.length b.length + 1 := by omega
            go_wp2_with (at_builtin; refine wpList_append_own _ rfl _ _ 78 rfl w.heap.size 22 i0 (.int .u64 0) 1 8 Try.underlying78 hi hz0 hz1 hz2 rfl (by decide) _ _ _ rfl (hown.alloc _) ⟨wr.heap.size, 0, none⟩ 1 1 [.int .u64 (((x : Int)) % 65536)] rfl rfl (cell_one_new _ _ _) (one_u64 _) (by unfold maxLen; omega) (by omega) (by simp; omega) ?_; intro v' w1 hown' hgrow _)
            have R := rel_snoc ((x + 0 + 0) % 65536) (by omega) hsz hown hnx hown' hgrow
            go_roundw
            case rel => exact ⟨_, (x + 0 + 0) / 65536, i + 1, by go_num, by go_num, R.1, R.2, RS'.out⟩
            case measure => simp only [intOf]; omega
          · skip
            obtain rfl : p = 0 := by rw [hp]; exact getD_ge h1
            obtain rfl : q = 0 := by rw [hq]; exact getD_ge h2
            clear hp hq
            obtain rfl : x = 0 := by omega
            have hs := Lib.hid (HI.out.stop h1 h2)
            clear HI RS RT
            go_wp2
            go_ret
            exact ⟨_, l, rfl, hown, hnx, hs.out.1, hs.out.2.1, hs.out.2.2⟩

end Go.Proofs.Ytfhmcgpohpkjgaa
