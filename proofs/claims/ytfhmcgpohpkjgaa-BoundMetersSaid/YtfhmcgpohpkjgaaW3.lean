/-
  The walks of edictref09's cut, times, Add, Mul, Pow, Sum: each is the plain arithmetic, cut at the greatest uint64; what was in memory stays as it was. Conditions: arguments are uint64 values, rows of digits below 65536 not longer than some 2^44.
-/
import Derived.Test.YtfhmcgpohpkjgaaW2
namespace Go.Proofs.Ytfhmcgpohpkjgaa
open Go.RowKit Plain

def Zs (b : List Nat) (k : Nat) : Prop := ∀ j, 4 ≤ j → j < k → b[j]?.getD 0 = 0
theorem Zs.start (b : List Nat) : Zs b 4 := fun j h1 h2 => by omega
theorem Zs.round {b : List Nat} {k d : Nat} (h : Zs b k) (hd : d = b[k]?.getD 0) (h0 : d = 0) : Zs b (k + 1) := fun j h1 h2 => by
  by_cases e : j = k
  · subst e; rw [← hd, h0]
  · exact h j h1 (by omega)

def CutRel (b : List Nat) (x i : Value) : Prop :=
  ∃ m a : Nat, x = .int .u64 (a : Int) ∧ CutInv b m a ∧ ((∃ k : Nat, m = k + 1 ∧ i = .int .i64 (k : Int)) ∨ (m = 0 ∧ i = .int .i64 (-1)))

set_option maxRecDepth 100000 in
set_option maxHeartbeats 1600000 in
theorem cut_any (b : List Nat) (v : Value) (w : World) (hv : Reads w w.heap.size v b) (hb : Dig b) (lb : b.length ≤ 35184372088832) :
    Calls Try.prog 42 #[v] w fun e w' => e = .returned (.int .u64 (sat (val b) : Nat)) ∧ w = w' := by
  obtain ⟨V, hV⟩ : ∃ V, V = sat (val b) := ⟨_, rfl⟩
  rw [← hV]
  have HV := Lib.hid hV
  clear hV
  rcases hv with ⟨rfl, rfl⟩ | ⟨g, c, rfl, hg, hc⟩
  · have h0 : V = 0 := HV.out
    subst h0
    clear hb lb HV
    go_enter Try.func42, Try.ntmps42
    go_wp2
    refine wp_loop_rounds 1 ?_
    rw [rounds_succ]
    go_wp2
    refine wp_loop_rounds 1 ?_
    rw [rounds_succ]
    go_wp2
    go_ret
    exact ⟨ret_u64 rfl, rfl⟩
  · go_enter Try.func42, Try.ntmps42
    go_wp2
    go_loop [3] (fun i => ∃ k : Nat, i = .int .i64 (k : Int) ∧ 4 ≤ k ∧ (k = 4 ∨ k ≤ b.length) ∧ Hid (Zs b k)) (fun i => b.length - (intOf i).toNat)
    case atStart => exact ⟨4, rfl, by omega, .inl rfl, Zs.start b⟩
    case round =>
      obtain ⟨k, rfl, hk4, hk, hZ⟩ := hrel
      have hkb : k ≤ 35184372088836 := by omega
      by_cases h1 : k < b.length
      · obtain ⟨d, hd⟩ : ∃ d : Nat, d = b[k]?.getD 0 := ⟨_, rfl⟩
        have dd : d < 65536 := by rw [hd]; exact hb k
        have hcell : w.cell? ⟨g, k, none⟩ = some (.int .u64 (d : Int)) := by rw [hd]; exact hc k h1
        by_cases h2 : 0 < d
        · have HM := Lib.hid (show V = 18446744073709551615 by rw [HV.out]; exact cut_big hk4 (by omega))
          clear hd hc HV hZ
          go_wp2
          go_ret
          exact ⟨ret_u64 (by rw [HM.out]; rfl), rfl⟩
        · obtain rfl : d = 0 := by omega
          have hZ' : Hid (Zs b (k + 1)) := hZ.out.round hd rfl
          clear hd hc hZ
          go_wp2
          go_round
          case rel => exact ⟨k + 1, by go_num, by omega, .inr (by omega), hZ'⟩
          case measure => simp only [intOf]; omega
      · have hZ' : ∀ j, 4 ≤ j → j < b.length → b[j]?.getD 0 = 0 := fun j h3 h4 => hZ.out j h3 (by omega)
        have HZ := Lib.hid hZ'
        clear hZ hZ'
        go_wp2
        go_loop [4, 5] (fun x i => CutRel b x i) (fun _ i => (intOf i + 1).toNat)
        case atStart =>
          refine ⟨b.length, 0, rfl, CutInv.start b, ?_⟩
          by_cases e : b.length = 0
          · exact .inr ⟨e, by rw [e]; rfl⟩
          · exact .inl ⟨b.length - 1, by omega, by go_num⟩
        case round =>
          obtain ⟨m, x, rfl, hI, ⟨j, rfl, rfl⟩ | ⟨rfl, rfl⟩⟩ := hrel
          · have hjl : j < b.length := by have := hI.2; omega
            have hxl := hI.lt hb
            obtain ⟨d, hd⟩ : ∃ d : Nat, d = b[j]?.getD 0 := ⟨_, rfl⟩
            have dd : d < 65536 := by rw [hd]; exact hb j
            have hcell : w.cell? ⟨g, j, none⟩ = some (.int .u64 (d : Int)) := by rw [hd]; exact hc j hjl
            by_cases h4 : j < 4
            · have hI' : CutInv b j (x * 65536 + d) := by rw [hd]; exact hI.step h4
              have hl' := hI'.lt hb
              have HI := Lib.hid hI'
              clear hI hI' hd hc
              go_wp2
              go_round
              case rel =>
                refine ⟨j, x * 65536 + d, by go_num, HI.out, ?_⟩
                cases j with
                | zero => exact .inr ⟨rfl, by go_num⟩
                | succ j => exact .inl ⟨j, rfl, by go_num⟩
              case measure => simp only [intOf]; omega
            · have HI := Lib.hid (hI.skip (by omega))
              clear hI hd hc hcell
              go_wp2
              go_round
              case rel =>
                refine ⟨j, x, rfl, HI.out, ?_⟩
                cases j with
                | zero => exact .inr ⟨rfl, by go_num⟩
                | succ j => exact .inl ⟨j, rfl, by go_num⟩
              case measure => simp only [intOf]; omega
          · have HS := Lib.hid (hI.stop hb HZ.out)
            clear hI hc
            go_wp2
            go_ret
            exact ⟨ret_u64 (by rw [HV.out, HS.out]), rfl⟩

theorem ownsRow_below {w w' : World} {B : Nat} {e : TypeId} {k : Nat} {v : Value} {n : Nat} {xs : List Value} (h : w.ownsRow B e k v n xs) (hb : Below w.heap.size w w') : w'.ownsRow B e k v n xs := by
  obtain ⟨h1, h2⟩ := h
  refine ⟨h1, ?_⟩
  rcases h2 with h2 | ⟨g, cap, cur, hv, hg, hh, r⟩
  · exact .inl h2
  · exact .inr ⟨g, cap, cur, hv, hg, by rw [hb.block g (lt_of_block hh)]; exact hh, r⟩

def ZeroRel (w : World) (i : Nat) (v k : Value) (wr : World) : Prop :=
  ∃ j : Nat, k = .int .i64 (j : Int) ∧ j ≤ i ∧ wr.ownsRow w.heap.size 22 1 v j (dig (List.replicate j 0)) ∧ Below w.heap.size w wr
theorem rel_zero {B j : Nat} {w wr w1 : World} {v v' : Value} {o : Obj} (hB : B ≤ wr.heap.size)
    (hown : wr.ownsRow B 22 1 v j (dig (List.replicate j 0))) (hnx : Below B w wr)
    (hown' : w1.ownsRow B 22 1 v' (j + 1) (dig (List.replicate j 0) ++ [.int .u64 0])) (hgrow : (wr.alloc o).grownBy w1 v.ownBlock) :
    w1.ownsRow B 22 1 v' (j + 1) (dig (List.replicate (j + 1) 0)) ∧ Below B w w1 := by
  refine ⟨by rw [List.replicate_succ', dig_snoc]; exact hown', ?_⟩
  exact (hnx.alloc hB o).grown hgrow (by simp; omega) (fun k hk => (hown.lt k hk).1)

def RowRel (w : World) (a : List Nat) (x z : Nat) (v c j : Value) (wr : World) : Prop :=
  ∃ (l : List Nat) (d i : Nat), c = .int .u64 (d : Int) ∧ j = .int .i64 (i : Int) ∧ wr.ownsRow w.heap.size 22 1 v l.length (dig l) ∧ Below w.heap.size w wr ∧ RowInv a x z i l d

def TimesRel (w : World) (a b : List Nat) (v k : Value) (wr : World) : Prop :=
  ∃ (l : List Nat) (i : Nat), k = .int .i64 (i : Int) ∧ i ≤ b.length ∧ wr.ownsRow w.heap.size 22 1 v l.length (dig l) ∧ Below w.heap.size w wr ∧ TimesInv a b i l

set_option maxRecDepth 100000 in
set_option maxHeartbeats 1600000 in
theorem times_any (a b : List Nat) (v u : Value) (w : World) (hv : Reads w w.heap.size v a) (hu : Reads w w.heap.size u b) (ha : Dig a) (hb : Dig b)
    (la : a.length ≤ 1099511627776) (lb : b.length ≤ 1099511627776) :
    Calls Try.prog 46 #[v, u] w (BigIs w (val a * val b) (a.length + b.length + 1)) := by
  obtain ⟨i0, hi, hz0, hz1, hz2⟩ := info_parts Try.info22
  rcases hu with ⟨rfl, rfl⟩ | ⟨gb, cb, rfl, hgb, hcb⟩
  · have hs : BigIs w (val a * val []) (a.length + ([] : List Nat).length + 1) (.returned (.slice none 0 0)) w :=
      ⟨_, [], rfl, World.ownsRow_nil _ _ _ _, Below.refl _ _, Dig.nil, by simp [val], by simp⟩
    have HS := Lib.hid hs
    clear hs hb lb la ha
    rcases hv with ⟨rfl, rfl⟩ | ⟨ga, ca, rfl, hga, hca⟩
    all_goals
      go_enter Try.func46, Try.ntmps46
      go_wp2
      refine wp_loop_rounds 1 ?_
      rw [rounds_succ]
      go_wp2
      go_ret
      exact HS.out
  · rcases hv with ⟨rfl, rfl⟩ | ⟨ga, ca, rfl, hga, hca⟩
    · go_enter Try.func46, Try.ntmps46
      go_wp2
      go_loopw [5, 13] (fun v k wr => TimesRel w [] b v k wr) (fun _ k _ => b.length - (intOf k).toNat)
      case atStart => exact ⟨[], 0, rfl, Nat.zero_le _, World.ownsRow_nil _ _ _ _, Below.refl _ _, TimesInv.start [] b⟩
      case round =>
        obtain ⟨o, i, rfl, hib, hown, hnx, hI⟩ := hrel
        obtain ⟨wo, rfl⟩ : ∃ wo : World, wo = wr := ⟨_, rfl⟩
        have hsz := hnx.size
        have HI := Lib.hid hI
        have hol : o.length ≤ 0 + i + 1 := hI.2.2
        clear hI
        by_cases h1 : i < b.length
        · go_wp2
          go_loopw [7, 17] (fun v k wr => ZeroRel wo i v k wr) (fun _ k _ => i - (intOf k).toNat)
          case atStart => exact ⟨0, rfl, Nat.zero_le _, World.ownsRow_nil _ _ _ _, Below.refl _ _⟩
          case round =>
            obtain ⟨k, rfl, hki, hrow, hbz⟩ := hrel
            have hszz := hbz.size
            by_cases h2 : k < i
            · go_wp2_with (at_builtin; refine wpList_append_own _ rfl _ _ 78 rfl wo.heap.size 22 i0 (.int .u64 0) 1 8 Try.underlying78 hi hz0 hz1 hz2 rfl (by decide) _ _ _ rfl (hrow.alloc _) ⟨wr.heap.size, 0, none⟩ 1 1 [.int .u64 0] rfl rfl (cell_one_new _ _ _) (one_u64 _) (by unfold maxLen; omega) (by omega) (by simp; omega) ?_; intro v' w1 hown' hgrow _)
              have R := rel_zero hszz hrow hbz hown' hgrow
              go_roundw
              case rel => exact ⟨k + 1, by go_num, by omega, R.1, R.2⟩
              case measure => simp only [intOf]; omega
            · obtain rfl : k = i := by omega
              clear h2
              obtain ⟨x, hx⟩ : ∃ x : Nat, x = b[k]?.getD 0 := ⟨_, rfl⟩
              have dx : x < 65536 := by rw [hx]; exact hb k
              have hB0 : wo.cell? ⟨gb, k, none⟩ = some (.int .u64 (x : Int)) := by rw [hx]; exact (hnx.cell (p := ⟨gb, k, none⟩) hgb).trans (hcb k h1)
              have HX := Lib.hid hx
              clear hx
              have hst := RowInv.start [] x k
              have HST := Lib.hid hst
              clear hst
              go_wp2
              go_loopw [7, 8, 9] (fun v c j wr => RowRel wo [] x k v c j wr) (fun _ _ j _ => 1 - (intOf j).toNat)
              case atStart => exact ⟨List.replicate k 0, 0, 0, rfl, rfl, by rw [List.length_replicate]; exact hrow, hbz, HST.out⟩
              case round =>
                obtain ⟨l, c, j, rfl, rfl, hrow, hbz, hR⟩ := hrel
                have hszr := hbz.size
                have hjl : j ≤ 0 + 1 := hR.le
                have hc6 : c < 65536 := hR.2.2.1
                have hll : l.length = k + j := hR.1
                have hlb : l.length ≤ 3299999999999 := by omega
                have HR := Lib.hid hR
                clear hR hll
                have h3 : ¬ j < ([] : List Nat).length := by simp
                · by_cases h4 : 0 < c
                  · have HR' := Lib.hid (HR.out.round' (getD_ge (l := []) h3).symm ha dx (.inr h4))
                    have hj' : j + 1 ≤ 0 + 1 := HR'.out.le
                    clear HR hB0
                    go_wp2_with (at_builtin; refine wpList_append_own _ rfl _ _ 78 rfl wo.heap.size 22 i0 (.int .u64 0) 1 8 Try.underlying78 hi hz0 hz1 hz2 rfl (by decide) _ _ _ rfl (hrow.alloc _) ⟨wr.heap.size, 0, none⟩ 1 1 [.int .u64 ((c : Int) % 65536)] rfl rfl (cell_one_new _ _ _) (one_u64 _) (by unfold maxLen; omega) (by omega) (by simp; omega) ?_; intro v' w1 hown' hgrow _)
                    have R := rel_snoc ((c + 0 * x) % 65536) (by omega) hszr hrow hbz hown' hgrow
                    go_roundw
                    case rel => exact ⟨_, (c + 0 * x) / 65536, j + 1, by go_num, by go_num, R.1, R.2, HR'.out⟩
                    case measure => simp only [intOf]; omega
                  · obtain rfl : c = 0 := by omega
                    have HS := Lib.hid (HR.out.stop h3)
                    have hro := reads_of_owns (ownsRow_below hown hbz)
                    have hrr := reads_of_owns hrow
                    have hlo : o.length ≤ 17592186044400 := by omega
                    have hlr : l.length ≤ 17592186044400 := by omega
                    have hdo := HI.out.1
                    have hdl := HS.out.1
                    clear HR hB0 h4
                    go_wp2_with fail
                    refine (plus_any o l _ _ wr hro hrr hdo hdl hlo hlr).mono ?_
                    rintro e w3 ⟨v3, l3, rfl, hown3, hbel3, hd3, hv3, hl3⟩
                    have HT := Lib.hid (HI.out.round h1 (by rw [HS.out.2.1, HX.out]) HS.out.2.2 ⟨hd3, hv3, hl3⟩)
                    have hB3 : Below w.heap.size w w3 := hnx.trans ((hbz.mono hsz).trans (hbel3.mono (by omega)))
                    have hO3 : w3.ownsRow w.heap.size 22 1 v3 l3.length (dig l3) := Joins.ownsRow_le hown3 (by omega)
                    clear hv3 hl3 HI HS HX hown3 hbel3
                    go_wp2
                    go_roundw
                    case rel => exact ⟨l3, k + 1, by go_num, by omega, hO3, hB3, HT.out⟩
                    case measure => simp only [intOf]; omega
        · have e : i = b.length := by omega
          have HS := Lib.hid (HI.out.stop e)
          clear HI e
          go_wp2
          go_ret
          exact ⟨_, o, rfl, hown, hnx, HS.out.1, HS.out.2.1, HS.out.2.2⟩
    · go_enter Try.func46, Try.ntmps46
      go_wp2
      go_loopw [5, 13] (fun v k wr => TimesRel w a b v k wr) (fun _ k _ => b.length - (intOf k).toNat)
      case atStart => exact ⟨[], 0, rfl, Nat.zero_le _, World.ownsRow_nil _ _ _ _, Below.refl _ _, TimesInv.start a b⟩
      case round =>
        obtain ⟨o, i, rfl, hib, hown, hnx, hI⟩ := hrel
        obtain ⟨wo, rfl⟩ : ∃ wo : World, wo = wr := ⟨_, rfl⟩
        have hsz := hnx.size
        have HI := Lib.hid hI
        have hol := hI.2.2
        clear hI
        by_cases h1 : i < b.length
        · go_wp2
          go_loopw [7, 17] (fun v k wr => ZeroRel wo i v k wr) (fun _ k _ => i - (intOf k).toNat)
          case atStart => exact ⟨0, rfl, Nat.zero_le _, World.ownsRow_nil _ _ _ _, Below.refl _ _⟩
          case round =>
            obtain ⟨k, rfl, hki, hrow, hbz⟩ := hrel
            have hszz := hbz.size
            by_cases h2 : k < i
            · go_wp2_with (at_builtin; refine wpList_append_own _ rfl _ _ 78 rfl wo.heap.size 22 i0 (.int .u64 0) 1 8 Try.underlying78 hi hz0 hz1 hz2 rfl (by decide) _ _ _ rfl (hrow.alloc _) ⟨wr.heap.size, 0, none⟩ 1 1 [.int .u64 0] rfl rfl (cell_one_new _ _ _) (one_u64 _) (by unfold maxLen; omega) (by omega) (by simp; omega) ?_; intro v' w1 hown' hgrow _)
              have R := rel_zero hszz hrow hbz hown' hgrow
              go_roundw
              case rel => exact ⟨k + 1, by go_num, by omega, R.1, R.2⟩
              case measure => simp only [intOf]; omega
            · obtain rfl : k = i := by omega
              clear h2
              obtain ⟨x, hx⟩ : ∃ x : Nat, x = b[k]?.getD 0 := ⟨_, rfl⟩
              have dx : x < 65536 := by rw [hx]; exact hb k
              have hB0 : wo.cell? ⟨gb, k, none⟩ = some (.int .u64 (x : Int)) := by rw [hx]; exact (hnx.cell (p := ⟨gb, k, none⟩) hgb).trans (hcb k h1)
              have HX := Lib.hid hx
              clear hx
              have hst := RowInv.start a x k
              have HST := Lib.hid hst
              clear hst
              go_wp2
              go_loopw [7, 8, 9] (fun v c j wr => RowRel wo a x k v c j wr) (fun _ _ j _ => a.length + 1 - (intOf j).toNat)
              case atStart => exact ⟨List.replicate k 0, 0, 0, rfl, rfl, by rw [List.length_replicate]; exact hrow, hbz, HST.out⟩
              case round =>
                obtain ⟨l, c, j, rfl, rfl, hrow, hbz, hR⟩ := hrel
                have hszr := hbz.size
                have hjl := hR.le
                have hc6 : c < 65536 := hR.2.2.1
                have hll : l.length = k + j := hR.1
                have hlb : l.length ≤ 3299999999999 := by omega
                have HR := Lib.hid hR
                clear hR hll
                by_cases h3 : j < a.length
                · obtain ⟨p, hp⟩ : ∃ p : Nat, p = a[j]?.getD 0 := ⟨_, rfl⟩
                  have dp : p < 65536 := by rw [hp]; exact ha j
                  have hpx := prod_le dp dx
                  have hA : wr.cell? ⟨ga, j, none⟩ = some (.int .u64 (p : Int)) := by rw [hp]; exact (hbz.cell (p := ⟨ga, j, none⟩) (show ga < wo.heap.size by omega)).trans ((hnx.cell (p := ⟨ga, j, none⟩) hga).trans (hca j h3))
                  have hB : wr.cell? ⟨gb, k, none⟩ = some (.int .u64 (x : Int)) := (hbz.cell (p := ⟨gb, k, none⟩) (show gb < wo.heap.size by omega)).trans hB0
                  have HR' := Lib.hid (HR.out.round' hp ha dx (.inl h3))
                  clear hp HR hB0
                  have hw1 : IntKind.u64.wrap ((p : Int) * (x : Int)) = (p : Int) * (x : Int) := IntWalk.u64_in _ (by rw [← Int.natCast_mul]; omega)
                  have hw2 : IntKind.u64.wrap ((c : Int) + (p : Int) * (x : Int)) = (c : Int) + (p : Int) * (x : Int) := IntWalk.u64_in _ (by rw [← Int.natCast_mul]; omega)
                  have hj3 : (j : Int) < (a.length : Int) := by omega
                  have hk3 : (k : Int) < (b.length : Int) := by omega
                  go_wp2_with fail
                  go_quiet (fail)
                  clear hw1 hw2 hj3 hk3
                  generalize hW : wr.drewN _ = w2
                  have hrow2 : w2.ownsRow wo.heap.size 22 1 u7 l.length (dig l) := by rw [← hW]; exact hrow
                  have hbz2 : Below wo.heap.size wo w2 := by rw [← hW]; exact ⟨hbz.os, hbz.tape, hbz.output, hbz.size, hbz.block⟩
                  have hszr2 := hbz2.size
                  clear hW hrow hbz hA hB hszr
                  go_wp2_with (at_builtin; refine wpList_append_own _ rfl _ _ 78 rfl wo.heap.size 22 i0 (.int .u64 0) 1 8 Try.underlying78 hi hz0 hz1 hz2 rfl (by decide) _ _ _ rfl (hrow2.alloc _) ⟨w2.heap.size, 0, none⟩ 1 1 [.int .u64 (((c : Int) + (p : Int) * (x : Int)) % 65536)] rfl rfl (cell_one_new _ _ _) (one_u64 _) (by unfold maxLen; omega) (by omega) (by simp; omega) ?_; intro v' w1 hown' hgrow _)
                  have R := rel_snoc ((c + p * x) % 65536) (by rw [Int.natCast_emod, Int.natCast_add, Int.natCast_mul]; rfl) hszr2 hrow2 hbz2 hown' hgrow
                  have hdv : ((c : Int) + (p : Int) * (x : Int)) / 65536 = (((c + p * x) / 65536 : Nat) : Int) := by rw [Int.natCast_ediv, Int.natCast_add, Int.natCast_mul]; rfl
                  go_roundw
                  case rel => exact ⟨_, (c + p * x) / 65536, j + 1, by rw [← hdv], by go_num, R.1, R.2, HR'.out⟩
                  case measure => simp only [intOf]; omega
                · by_cases h4 : 0 < c
                  · have HR' := Lib.hid (HR.out.round' (getD_ge h3).symm ha dx (.inr h4))
                    have hj' := HR'.out.le
                    clear HR hB0
                    go_wp2_with (at_builtin; refine wpList_append_own _ rfl _ _ 78 rfl wo.heap.size 22 i0 (.int .u64 0) 1 8 Try.underlying78 hi hz0 hz1 hz2 rfl (by decide) _ _ _ rfl (hrow.alloc _) ⟨wr.heap.size, 0, none⟩ 1 1 [.int .u64 ((c : Int) % 65536)] rfl rfl (cell_one_new _ _ _) (one_u64 _) (by unfold maxLen; omega) (by omega) (by simp; omega) ?_; intro v' w1 hown' hgrow _)
                    have R := rel_snoc ((c + 0 * x) % 65536) (by omega) hszr hrow hbz hown' hgrow
                    go_roundw
                    case rel => exact ⟨_, (c + 0 * x) / 65536, j + 1, by go_num, by go_num, R.1, R.2, HR'.out⟩
                    case measure => simp only [intOf]; omega
                  · obtain rfl : c = 0 := by omega
                    have HS := Lib.hid (HR.out.stop h3)
                    have hro := reads_of_owns (ownsRow_below hown hbz)
                    have hrr := reads_of_owns hrow
                    have hlo : o.length ≤ 17592186044400 := by omega
                    have hlr : l.length ≤ 17592186044400 := by omega
                    have hdo := HI.out.1
                    have hdl := HS.out.1
                    clear HR hB0 h4
                    go_wp2_with fail
                    refine (plus_any o l _ _ wr hro hrr hdo hdl hlo hlr).mono ?_
                    rintro e w3 ⟨v3, l3, rfl, hown3, hbel3, hd3, hv3, hl3⟩
                    have HT := Lib.hid (HI.out.round h1 (by rw [HS.out.2.1, HX.out]) HS.out.2.2 ⟨hd3, hv3, hl3⟩)
                    have hB3 : Below w.heap.size w w3 := hnx.trans ((hbz.mono hsz).trans (hbel3.mono (by omega)))
                    have hO3 : w3.ownsRow w.heap.size 22 1 v3 l3.length (dig l3) := Joins.ownsRow_le hown3 (by omega)
                    clear hv3 hl3 HI HS HX hown3 hbel3
                    go_wp2
                    go_roundw
                    case rel => exact ⟨l3, k + 1, by go_num, by omega, hO3, hB3, HT.out⟩
                    case measure => simp only [intOf]; omega
        · have e : i = b.length := by omega
          have HS := Lib.hid (HI.out.stop e)
          clear HI e
          go_wp2
          go_ret
          exact ⟨_, o, rfl, hown, hnx, HS.out.1, HS.out.2.1, HS.out.2.2⟩

end Go.Proofs.Ytfhmcgpohpkjgaa
