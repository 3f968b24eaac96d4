/-
  Texts of this seat, one behind the other: W12, Plain5, W13, K5, Plain6. Conditions: those that each of them states.
-/
import Derived.Test.YtlandkindbmbfaaG5
import Derived.Test.YtlandkindbmbfaaG3
/-
  The walk of edictlaw10.instance: whether some numbers in place of a pattern's variables make it the row. Conditions: the numbers are ints, the lists within the form's own reach.
-/
namespace Go.Proofs.Ytlandkindbmbfaa
open Go.RowKit Plain
attribute [local go_sem ↓] Go.wp_at_zero Go.wp_at_succ

/-- The cells of a list of pairs. -/
def plits : List (Int × Int) → List Value
  | [] => []
  | a :: l => .int .i64 a.1 :: .int .i64 a.2 :: plits l
theorem plits_snoc : ∀ (l : List (Int × Int)) (a : Int × Int), plits (l ++ [a]) = plits l ++ [.int .i64 a.1, .int .i64 a.2]
  | [], _ => rfl
  | b :: l, a => by simp [plits, plits_snoc l a]
theorem plits_get : ∀ (l : List (Int × Int)) (j : Nat) (b n : Int), l[j]? = some (b, n) → (plits l)[j * 2]? = some (.int .i64 b) ∧ (plits l)[j * 2 + 1]? = some (.int .i64 n)
  | [], _, _, _, h => by simp at h
  | a :: l, 0, b, n, h => by simp at h; subst h; exact ⟨rfl, rfl⟩
  | a :: l, j + 1, b, n, h => by
    have := plits_get l j b n (by simpa using h)
    rw [show (j + 1) * 2 = j * 2 + 1 + 1 by omega]
    exact this
def OwnPairs (w : World) (B : Nat) (v : Value) (l : List (Int × Int)) : Prop := w.ownsRow B 95 2 v l.length (plits l)
theorem OwnPairs.nil (w : World) (B : Nat) : OwnPairs w B (.slice none 0 0) [] := World.ownsRow_nil _ _ _ _
theorem OwnPairs.heap {w w' : World} {B : Nat} {v : Value} {l : List (Int × Int)} (h : OwnPairs w B v l) (e : w'.heap = w.heap) : OwnPairs w' B v l := by unfold OwnPairs World.ownsRow at *; rw [e]; exact h
theorem OwnPairs.get {w : World} {B g c : Nat} {l : List (Int × Int)} (h : OwnPairs w B (.slice (some ⟨g, 0, none⟩) l.length c) l) {j : Nat} {b n : Int} (hj : l[j]? = some (b, n)) :
    w.cell? ⟨g, j * 2, none⟩ = some (.int .i64 b) ∧ w.cell? ⟨g, j * 2 + 1, none⟩ = some (.int .i64 n) := by
  have hj' : j < l.length := (List.getElem?_eq_some_iff.1 hj).1
  have hf := plits_get l j b n hj
  exact ⟨by rw [World.ownsRow.cellAt h (j * 2) (by omega)]; exact hf.1, by rw [World.ownsRow.cellAt h (j * 2 + 1) (by omega)]; exact hf.2⟩
theorem OwnPairs.form {w : World} {B : Nat} {v : Value} {l : List (Int × Int)} (h : OwnPairs w B v l) : ∃ ao c, v = .slice ao l.length c ∧ (l ≠ [] → ∃ g, ao = some ⟨g, 0, none⟩) := by
  rcases Joins.ownsRow_forms h with ⟨rfl, h0⟩ | ⟨g, cap, rfl⟩
  · exact ⟨none, 0, by rw [h0], fun hn => absurd (List.length_eq_zero_iff.1 h0) hn⟩
  · exact ⟨some ⟨g, 0, none⟩, cap, rfl, fun _ => ⟨g, rfl⟩⟩
theorem block_apart {w : World} {B Z : Nat} {cs : Array Value} {f : Nat × Nat} {v : Value} {n : Nat} {xs : List Value} (h : w.heap[Z]? = some (.cells cs 53 f)) (ho : w.ownsRow B 95 2 v n xs) : some Z ≠ v.ownBlock := by
  rcases ho.2 with ⟨rfl, _⟩ | ⟨g, cap, cur, rfl, _, hg, _⟩
  · simp [Value.ownBlock]
  · intro e
    have e2 : Z = g := by simpa [Value.ownBlock] using e
    subst e2
    rw [h] at hg
    simp at hg
theorem cell_heap {w w' : World} {a : Addr} {v : Value} (h : w.cell? a = some v) (e : w'.heap = w.heap) : w'.cell? a = some v := (World.cell?_of_block (by rw [e])).trans h
theorem Try.info95 : (Try.prog.info? 95).map (fun i => (i.zero, i.size, i.bytes)) = some (some (.agg #[.int .i64 0, .int .i64 0]), 2, 16) := by kernel_rfl
theorem one_pair (b n : Int) : ∀ u ∈ [Value.int .i64 b, Value.int .i64 n], u.oneCell' = true := by
  intro u hu
  simp only [List.mem_cons, List.not_mem_nil, or_false] at hu
  rcases hu with rfl | rfl <;> rfl
theorem pairs_snoc {B : Nat} {w wr w1 : World} {v v' : Value} {l : List (Int × Int)} {x y : Int} {o : Obj} (hB : B ≤ wr.heap.size)
    (hown : OwnPairs wr B v l) (hnx : Below B w wr)
    (hown' : w1.ownsRow B 95 2 v' (l.length + 1) (plits l ++ [.int .i64 x, .int .i64 y])) (hgrow : (wr.alloc o).grownBy w1 v.ownBlock) :
    OwnPairs w1 B v' (l ++ [(x, y)]) ∧ Below B w w1 := by
  refine ⟨by unfold OwnPairs; rw [plits_snoc, List.length_append, List.length_singleton]; exact hown', ?_⟩
  exact (hnx.alloc hB o).grown hgrow (by simp; omega) (fun j hj => (hown.lt j hj).1)

def InRel (l : List Slt) (args : List Int) (W0 : World) (v k : Value) (wr : World) : Prop :=
  ∃ (o : Value) (B : List (Int × Int)) (i : Nat), o = v ∧ k = .int .i64 (i : Int) ∧ i ≤ args.length ∧ B.length ≤ i ∧ Below W0.heap.size W0 wr ∧ OwnPairs wr W0.heap.size o B ∧ Bd l args i B ∧ AllTo (instAt l args) i

set_option maxRecDepth 100000 in
set_option maxHeartbeats 6400000 in
theorem instance_any (p : Int) (l : List Slt) (q : Int) (args : List Int) (v u : Value) (w : World) (hv : SlotsAt w w.heap.size v l) (hn : l.length ≤ 8796093021952) (hu : IntsAt w w.heap.size u args) :
    Calls Try.prog 24 #[.agg #[.int .i64 p, v], .int .i64 q, u] w (BoolIs w (instB p l q args)) := by
  obtain ⟨i95, pi, p0, p1, p2⟩ := info_parts Try.info95
  obtain ⟨V, hV⟩ : ∃ V, V = instB p l q args := ⟨_, rfl⟩
  rw [← hV]
  have HV := Lib.hid hV
  clear hV
  obtain ⟨a, cap, rfl, ha⟩ := hv.form
  obtain ⟨au, cu, rfl, hau⟩ := hu
  have HA := Lib.hid ha
  have HU := Lib.hid hau
  by_cases hp : p = q
  · by_cases hl : l.length = args.length
    · have hpn : (p != q) = false := by simp [hp]
      have hln : ((l.length : Int) != (l.length : Int)) = false := by simp
      have HP := Lib.hid hp
      have HL := Lib.hid hl
      obtain ⟨W0, hW0⟩ : ∃ W0, W0 = w.alloc (.cells #[.int .i64 p, .slice a l.length cap] 39) := ⟨_, rfl⟩
      have hz0 : W0.heap.size = w.heap.size + 1 := by rw [hW0]; simp
      have HB0 := Lib.hid (show Below w.heap.size w W0 by rw [hW0]; exact (Below.refl _ _).alloc (Nat.le_refl _) _)
      have HK := Lib.hid (show W0.cell? ⟨w.heap.size, 1, none⟩ = some (.slice a l.length cap) by rw [hW0]; simp)
      have HS := Lib.hid (hv.below HB0.out)
      rw [← hl]
      clear hv ha hau hp hl
      go_enter Try.func24, Try.ntmps24
      go_wp2
      rw [← hW0]
      clear hW0 hpn hln
      go_loopw [7, 8] (fun v k wr => InRel l args W0 v k wr) (fun _ k _ => l.length - (intOf k).toNat)
      case atStart => exact ⟨_, [], 0, rfl, rfl, Nat.zero_le _, Nat.le_refl _, Below.refl _ _, OwnPairs.nil _ _, Bd.start _ _, AllTo.start _⟩
      case round =>
        obtain ⟨v, B, i, rfl, rfl, hil, hBl, hnx, hown, hbd, hall⟩ := hrel
        rw [← HL.out] at hil
        have hsz := hnx.size
        have ka := below_cells hnx (p := ⟨w.heap.size, 1, none⟩) (show w.heap.size < W0.heap.size by omega) HK.out
        have NX := Lib.hid hnx
        have HO := Lib.hid hown
        have HBD := Lib.hid hbd
        have HALL := Lib.hid hall
        clear hnx hown hbd hall
        by_cases h1 : i < l.length
        · obtain ⟨g, off, rfl⟩ := HA.out (ne_of_lt_len h1)
          obtain ⟨gu, offu, rfl, hgu, hcu⟩ := HU.out.resolve_left (fun e => by rw [HL.out, e] at h1; simp at h1)
          obtain ⟨b, n, hsi⟩ : ∃ b n, l[i]? = some (b, n) := ⟨l[i].1, l[i].2, List.getElem?_eq_getElem h1⟩
          obtain ⟨hg, c0, c1⟩ := SlotsAt.get ((HS.out.mono (show w.heap.size ≤ W0.heap.size by omega)).below NX.out) hsi
          obtain ⟨y, hy⟩ : ∃ y, y = at' args i := ⟨_, rfl⟩
          have hB : wr.cell? ⟨gu, offu + i, none⟩ = some (.int .i64 y) := by
            rw [hy]; exact below_cells NX.out (show gu < W0.heap.size by omega) (below_cells HB0.out hgu (hcu i (by rw [← HL.out]; exact h1)))
          have HI := Lib.hid hsi
          have HY := Lib.hid hy
          have i0 : (0 : Int) ≤ (i : Int) := Int.natCast_nonneg _
          have i1 : (i : Int) < (l.length : Int) := by omega
          clear hsi hy hcu
          cases b with
          | false =>
            have bA : (wr.alloc (.cells #[.bool false, .int .i64 n] 53)).cell? ⟨wr.heap.size, 1, none⟩ = some (.int .i64 n) := by simp
            have bB : (wr.alloc (.cells #[.bool false, .int .i64 n] 53)).cell? ⟨gu, offu + i, none⟩ = some (.int .i64 y) := (World.cell?_alloc_past _ _ _ (show gu < _ by omega)).trans hB
            by_cases he : n = y
            · have hb : (y != y) = false := by simp
              have HN := Lib.hid (HALL.out.round (by rw [instAt_const HI.out HY.out, he]; simp))
              subst he
              go_wp2_with fail
              go_quiet (fail)
              generalize hW : (wr.alloc (.cells #[.bool false, .int .i64 n] 53)).drewN _ = w2
              have NX2 := Lib.hid (show Below W0.heap.size W0 w2 by rw [← hW]; exact below_drewN (NX.out.alloc hsz _))
              have HO2 := Lib.hid (show OwnPairs w2 W0.heap.size v B by rw [← hW]; exact (World.ownsRow.alloc HO.out _))
              clear hW hb bA bB
              go_wp2
              go_roundw
              case rel => exact ⟨_, B, i + 1, rfl, by go_num, by rw [← HL.out]; omega, by omega, NX2.out, HO2.out, HBD.out.const HI.out, HN.out⟩
              case measure => simp only [intOf]; omega
            · have hb : (n != y) = true := by simpa using he
              have HR := Lib.hid (show V = false by rw [HV.out]; exact instB_bad (i := i) (by rw [← HL.out]; exact h1) (by rw [instAt_const HI.out HY.out]; simpa using fun e => he e.symm))
              clear he HV
              go_wp2_with fail
              go_quiet (fail)
              generalize hW : (wr.alloc (.cells #[.bool false, .int .i64 n] 53)).drewN _ = w2
              have NX2 := Lib.hid (show Below W0.heap.size W0 w2 by rw [← hW]; exact below_drewN (NX.out.alloc hsz _))
              clear hW hb bA bB
              go_wp2
              go_ret
              exact ⟨ret_bool HR.out.symm, HB0.out.trans (NX2.out.mono (by omega))⟩
          | true =>
            obtain ⟨Z, hZ⟩ : ∃ Z, Z = wr.heap.size := ⟨_, rfl⟩
            obtain ⟨wa, hwa⟩ : ∃ wa, wa = wr.alloc (.cells #[.bool true, .int .i64 n] 53) := ⟨_, rfl⟩
            have bH := Lib.hid (show wa.heap[Z]? = some (.cells #[.bool true, .int .i64 n] 53 (0, 0)) by rw [hwa, hZ]; exact heap_alloc_new _ _)
            have bA := Lib.hid (show wa.cell? ⟨Z, 1, none⟩ = some (.int .i64 n) by have := bH.out; simp only [World.cell?, this]; rfl)
            have bB := Lib.hid (show wa.cell? ⟨gu, offu + i, none⟩ = some (.int .i64 y) by rw [hwa]; exact (World.cell?_alloc_past _ _ _ (show gu < _ by omega)).trans hB)
            have NXA := Lib.hid (show Below W0.heap.size W0 wa by rw [hwa]; exact NX.out.alloc hsz _)
            have HOA := Lib.hid (show OwnPairs wa W0.heap.size v B by rw [hwa]; exact (World.ownsRow.alloc HO.out _))
            have hza : wa.heap.size = Z + 1 := by rw [hwa, hZ]; simp
            have hgz : gu < Z := by omega
            obtain ⟨ao, cb, rfl, hao⟩ := HOA.out.form
            have HAO := Lib.hid hao
            clear hao
            go_wp2
            rw [← hwa, ← hZ]
            clear hwa hZ c0 c1 hB ka
            go_loopw [10, 11] (fun o k wx => ∃ (old : Bool) (j : Nat), o = .bool old ∧ k = .int .i64 (j : Int) ∧ j ≤ B.length ∧ wx.heap = wa.heap ∧ Below W0.heap.size W0 wx ∧ Hid (Sc B n y j old)) (fun _ k _ => B.length - (intOf k).toNat)
            case atStart => exact ⟨false, 0, rfl, rfl, Nat.zero_le _, rfl, NXA.out, Sc.start B n y⟩
            case round =>
              obtain ⟨old, j, rfl, rfl, hjl, hheap, hnx, hsc⟩ := hrel
              have NXX := Lib.hid hnx
              have HH := Lib.hid hheap
              clear hnx hheap
              by_cases hj : j < B.length
              · obtain ⟨gb, rfl⟩ := HAO.out (ne_of_lt_len hj)
                obtain ⟨m, z, hbj⟩ : ∃ m z, B[j]? = some (m, z) := ⟨B[j].1, B[j].2, List.getElem?_eq_getElem hj⟩
                obtain ⟨d0, d1⟩ := HOA.out.get hbj
                have D1 := Lib.hid d1
                have HBJ := Lib.hid hbj
                have d0 := cell_heap d0 HH.out
                have d2 := cell_heap bA.out HH.out
                have j0 : (0 : Int) ≤ (j : Int) := Int.natCast_nonneg _
                have j1 : (j : Int) < (B.length : Int) := by omega
                clear hbj d1
                by_cases hm : m = n
                · have hb : (m == n) = true := by simp [hm]
                  have HM := Lib.hid hm
                  clear hm
                  go_wp2_with fail
                  go_quiet (fail)
                  generalize hW : wr.drewN _ = w2
                  have H2 := Lib.hid (show w2.heap = wa.heap by rw [← hW]; exact HH.out)
                  have NX2 := Lib.hid (show Below W0.heap.size W0 w2 by rw [← hW]; exact below_drewN NXX.out)
                  clear hW hb d0 d2 HH NXX
                  have d1 := cell_heap D1.out H2.out
                  have d3 := cell_heap bB.out H2.out
                  by_cases hz : z = y
                  · have hb : (z != y) = false := by simp [hz]
                    have HS2 := Lib.hid (hsc.out.hit (by rw [HBJ.out, HM.out, hz]))
                    clear hz
                    go_wp2_with fail
                    go_quiet (fail)
                    generalize hW : w2.drewN _ = w3
                    have H3 := Lib.hid (show w3.heap = wa.heap by rw [← hW]; exact H2.out)
                    have NX3 := Lib.hid (show Below W0.heap.size W0 w3 by rw [← hW]; exact below_drewN NX2.out)
                    clear hW hb d1 d3
                    go_wp2
                    go_roundw
                    case rel => exact ⟨true, j + 1, rfl, by go_num, by omega, H3.out, NX3.out, HS2.out⟩
                    case measure => simp only [intOf]; omega
                  · have hb : (z != y) = true := by simpa using hz
                    have HR := Lib.hid (show V = false by rw [HV.out]; exact instB_bad (i := i) (by rw [← HL.out]; exact h1) (HBD.out.bad (n := n) (by rw [HBJ.out, HM.out]) HI.out HY.out hz))
                    clear hz HV
                    go_wp2_with fail
                    go_quiet (fail)
                    generalize hW : w2.drewN _ = w3
                    have NX3 := Lib.hid (show Below W0.heap.size W0 w3 by rw [← hW]; exact below_drewN NX2.out)
                    clear hW hb d1 d3
                    go_wp2
                    go_ret
                    exact ⟨ret_bool HR.out.symm, HB0.out.trans (NX3.out.mono (by omega))⟩
                · have hb : (m == n) = false := by simpa using hm
                  have HS2 := Lib.hid (hsc.out.skip HBJ.out hm)
                  clear hm
                  go_wp2_with fail
                  go_quiet (fail)
                  generalize hW : wr.drewN _ = w2
                  have H2 := Lib.hid (show w2.heap = wa.heap by rw [← hW]; exact HH.out)
                  have NX2 := Lib.hid (show Below W0.heap.size W0 w2 by rw [← hW]; exact below_drewN NXX.out)
                  clear hW hb d0 d2 HH NXX
                  go_wp2
                  go_roundw
                  case rel => exact ⟨old, j + 1, rfl, by go_num, by omega, H2.out, NX2.out, HS2.out⟩
                  case measure => simp only [intOf]; omega
              · have e : j = B.length := by omega
                have HE := Lib.hid e
                have hnj : ¬ (j : Int) < (B.length : Int) := by omega
                clear e
                cases old with
                | true =>
                  have hyes := (show Sc B n y B.length true by rw [← HE.out]; exact hsc.out).yes HBD.out
                  have HN := Lib.hid (HALL.out.round (by rw [instAt_var HI.out HY.out, hyes.2]; simp))
                  have HBD2 := Lib.hid (HBD.out.old HI.out hyes.1)
                  have HO2 := Lib.hid (HOA.out.heap HH.out)
                  clear hyes
                  go_wp2
                  go_roundw
                  case rel => exact ⟨_, B, i + 1, rfl, by go_num, by rw [← HL.out]; omega, by omega, NXX.out, HO2.out, HBD2.out, HN.out⟩
                  case measure => simp only [intOf]; omega
                | false =>
                  have hno := (show Sc B n y B.length false by rw [← HE.out]; exact hsc.out).no HBD.out
                  have hf : firstV l n = i := by have := firstV_le HI.out; omega
                  have HN := Lib.hid (HALL.out.round (by rw [instAt_var HI.out HY.out, hf, ← HY.out]; simp))
                  have HBD2 := Lib.hid (HBD.out.new HI.out hno HY.out)
                  have HO2 := Lib.hid (HOA.out.heap HH.out)
                  have d2 := cell_heap bA.out HH.out
                  have d3 := cell_heap bB.out HH.out
                  have hzx : W0.heap.size ≤ wr.heap.size := NXX.out.size
                  have hgx : gu < wr.heap.size := by omega
                  have hZ2 : wr.heap[Z]? = some (.cells #[.bool true, .int .i64 n] 53 (0, 0)) := by rw [HH.out]; exact bH.out
                  have hwr : Z < wr.heap.size := by have := HH.out; rw [this]; omega
                  have k2 : (wr.alloc (.cells #[.int .i64 n, .int .i64 y] 95)).cell? ⟨Z, 1, none⟩ = some (.int .i64 n) := (World.cell?_alloc_past _ _ _ (show Z < _ by omega)).trans d2
                  have k3 : (wr.alloc (.cells #[.int .i64 n, .int .i64 y] 95)).cell? ⟨gu, offu + i, none⟩ = some (.int .i64 y) := (World.cell?_alloc_past _ _ _ (show gu < _ by omega)).trans d3
                  have hbl2 : B.length ≤ 8796093021952 := by omega
                  have hown2 : wr.ownsRow W0.heap.size 95 2 (.slice ao B.length cb) B.length (plits B) := HO2.out
                  clear hno hf
                  go_wp2_with fail
                  go_region_held3 (fun w' => w'.cell? ⟨Z, 1, none⟩ = some (.int .i64 n) ∧ w'.cell? ⟨gu, offu + i, none⟩ = some (.int .i64 y))
                    (first | exact ⟨d2, d3⟩ | exact ⟨k2, k3⟩ | exact ⟨m2, m3⟩)
                    ((refine step_append_own _ (by rfl) _ _ 93 (by rfl) W0.heap.size 95 i95 (.agg #[.int .i64 0, .int .i64 0]) 2 16 Try.underlying93 pi p0 p1 p2 rfl (by decide) (.slice ao B.length cb) B.length (plits B) (by rfl) (by exact hown2.alloc _) ⟨wr.heap.size, 0, none⟩ 1 1 [.int .i64 n, .int .i64 y] (by rfl) (by rfl) (World.news_of_block (cs := #[.int .i64 n, .int .i64 y]) (t := 95) (fr := (0, 0)) (heap_alloc_new wr _)) (one_pair n y) (by unfold maxLen; omega) (by omega) (by simp; omega) ?_; intro v2 w2 hown3 hgrow2 hnil2; have hgrow3 : (wr.alloc (.cells #[.int .i64 n, .int .i64 y] 95)).grownBy w2 (Value.slice ao B.length cb).ownBlock := ⟨hgrow2.os, hgrow2.tape, hgrow2.output, hgrow2.size, hgrow2.block⟩; have m2 := hgrow3.cell k2 (block_apart hZ2 hown2); have m3 := hgrow3.cell k3 (own_ge hown2 (show gu < _ by omega))))
                  have R := pairs_snoc hzx HO2.out NXX.out hown3 hgrow3
                  go_wp2
                  go_roundw
                  case rel => exact ⟨_, B ++ [(n, y)], i + 1, rfl, by go_num, by rw [← HL.out]; omega, by simp; omega, R.2, R.1, HBD2.out, HN.out⟩
                  case measure => simp only [intOf]; omega
        · have e : i = l.length := by omega
          have HR := Lib.hid (show V = true by rw [HV.out]; exact instB_true HP.out HL.out (by rw [← HL.out, ← e]; exact HALL.out))
          clear e
          go_wp2
          go_ret
          exact ⟨ret_bool HR.out.symm, HB0.out.trans (NX.out.mono (by omega))⟩
    · have hpn : (p != q) = false := by simp [hp]
      have hln : ((l.length : Int) != (args.length : Int)) = true := by simp; omega
      have HR := Lib.hid (show V = false by rw [HV.out]; exact instB_len hl)
      clear hp hl HV hv ha hau
      go_enter Try.func24, Try.ntmps24
      go_wp2
      go_ret
      exact ⟨ret_bool HR.out.symm, (Below.refl _ _).alloc (Nat.le_refl _) _⟩
  · have hpn : (p != q) = true := by simpa using hp
    have HR := Lib.hid (show V = false by rw [HV.out]; exact instB_pred hp)
    clear hp HV hv ha hau
    go_enter Try.func24, Try.ntmps24
    go_wp2
    go_ret
    exact ⟨ret_bool HR.out.symm, (Below.refl _ _).alloc (Nat.le_refl _) _⟩

end Go.Proofs.Ytlandkindbmbfaa
/-
  Plain laws of patterns: special cases are covered, and cover only what is the same; what fits a covered shape fits the covering one. No program is in sight here; no condition beyond those that each lemma states.
-/
namespace Go.Proofs.Ytlandkindbmbfaa.Plain

theorem coversB_parts {s t : Shp} (h : coversB s t = true) : validB s = true ∧ validB t = true ∧ s.pred = t.pred ∧ s.cells.length = t.cells.length ∧ ∀ i, i < s.cells.length → covAt s.cells t.cells i = true := by
  unfold coversB at h
  simp only [Bool.and_eq_true, decide_eq_true_eq] at h
  exact ⟨h.1, h.2.1, h.2.2.1, h.2.2.2.1, all_range.1 h.2.2.2.2⟩
theorem covers_refl {s : Shp} (h : validB s = true) : coversB s s = true := by
  refine coversB_true h h rfl rfl (fun i hi => ?_)
  by_cases h0 : at' s.cells i < 0
  · obtain ⟨j, hj, _, he⟩ := valid_cell h hi h0
    rw [covAt_neg rfl rfl h0 hj rfl, he]; simp
  · rw [covAt_pos rfl rfl (by omega)]; simp
theorem covers_anti {s t : Shp} (h1 : coversB s t = true) (h2 : coversB t s = true) : s = t := by
  obtain ⟨vs, vt, hp, hl, hst⟩ := coversB_parts h1
  obtain ⟨_, _, _, _, hts⟩ := coversB_parts h2
  have hc : s.cells = t.cells := by
    refine eq_of_at hl (fun i hi => ?_)
    have a := hst i hi
    have b := hts i (by omega)
    by_cases h0 : 0 ≤ at' s.cells i
    · rw [covAt_pos rfl rfl h0] at a; simp at a; exact a.symm
    · by_cases h3 : 0 ≤ at' t.cells i
      · rw [covAt_pos rfl rfl h3] at b; simp at b; exact b
      · obtain ⟨k, hk, hki, hke⟩ := valid_cell vs hi (by omega)
        obtain ⟨m, hm, hmi, hme⟩ := valid_cell vt (show i < t.cells.length by omega) (by omega)
        rw [covAt_neg rfl rfl (by omega) hk rfl] at a
        rw [covAt_neg rfl rfl (by omega) hm rfl] at b
        simp only [beq_iff_eq] at a b
        obtain ⟨m', hm', hmk, _⟩ := valid_cell vt (show k < t.cells.length by omega) (by omega)
        obtain ⟨k', hk', hkm, _⟩ := valid_cell vs (show m < s.cells.length by omega) (by omega)
        omega
  cases s; cases t; simp only at hp hc; rw [hp, hc]
theorem covers_back {s t : Shp} (h : coversB s t = true) : coversB t s = sameB s t := by
  rw [Bool.eq_iff_iff]
  constructor
  · intro h2
    rw [covers_anti h h2]; unfold sameB; simp
  · intro h2
    unfold sameB at h2
    simp only [Bool.and_eq_true, decide_eq_true_eq] at h2
    have : s = t := by cases s; cases t; simp only at h2; rw [h2.1, h2.2]
    rw [← this] at h ⊢; exact h
theorem fits_of_covers {s t : Shp} {q : Int} {row : List Int} (h : coversB s t = true) (hf : fitsB t q row = true) : fitsB s q row = true := by
  obtain ⟨vs, vt, hp, hl, hst⟩ := coversB_parts h
  unfold fitsB at hf
  simp only [Bool.and_eq_true, decide_eq_true_eq] at hf
  obtain ⟨_, hq, hrl, hr⟩ := hf
  have hr := all_range.1 hr
  have val : ∀ i, i < t.cells.length → at' row i = if at' t.cells i < 0 then at' row (-1 - at' t.cells i).toNat else at' t.cells i := fun i hi => by
    have := hr i (by omega); unfold fitAt at this; simpa using this
  refine fitsB_true vs (by rw [hq, hp]) (by omega) (fun i hi => ?_)
  have a := hst i (by omega)
  by_cases h0 : 0 ≤ at' s.cells i
  · rw [covAt_pos rfl rfl h0] at a
    simp only [beq_iff_eq] at a
    rw [fitAt_pos rfl rfl h0, val i (by omega), if_neg (by omega), a]; simp
  · obtain ⟨k, hk, hki, _⟩ := valid_cell vs (show i < s.cells.length by omega) (by omega)
    rw [covAt_neg rfl rfl (by omega) hk rfl] at a
    simp only [beq_iff_eq] at a
    rw [fitAt_neg rfl rfl (by omega) hk rfl, val i (by omega), val k (by omega), a]; simp

/-- A pattern's shape covers that of what a change of its variables makes of it. -/
theorem sub_covers {p : Int} {l : List Slt} {f : Slt → Slt} (hp : 0 ≤ p) (hl : l.all okSlt = true) (hf : ∀ c, f (false, c) = (false, c)) (hm : (l.map f).all okSlt = true) :
    coversB (shapeB p l) (shapeB p (l.map f)) = true := by
  have v1 := shape_valid hp hl
  have v2 := shape_valid hp hm
  rw [shapeB_ok hp hl] at v1 ⊢
  rw [shapeB_ok hp hm] at v2 ⊢
  refine coversB_true v1 v2 rfl (by simp) (fun i hi => ?_)
  simp only [List.length_map] at hi
  have hai : l[i]? = some l[i] := List.getElem?_eq_getElem hi
  generalize l[i] = a at hai
  obtain ⟨b, n⟩ := a
  have hc := at_map (f := cellOf l) hai
  have hmi : (l.map f)[i]? = some (f (b, n)) := by rw [List.getElem?_map, hai]; rfl
  have hd := at_map (f := cellOf (l.map f)) hmi
  cases b with
  | false =>
    have hn := List.all_eq_true.1 hl _ (List.mem_of_getElem? hai)
    simp [okSlt] at hn
    rw [hf] at hd
    rw [covAt_pos (x := n) (y := n) (by rw [hc]; rfl) (by rw [hd]; rfl) hn]; simp
  | true =>
    have hle := firstV_le hai
    have hfv := firstV_at (l := l) (n := n) (by omega)
    have hmk : (l.map f)[firstV l n]? = some (f (true, n)) := by rw [List.getElem?_map, hfv]; rfl
    have hdk := at_map (f := cellOf (l.map f)) hmk
    rw [covAt_neg (x := -1 - (firstV l n : Int)) (j := firstV l n) (by rw [hc]; rfl) rfl (by omega) (by omega) rfl, hd, hdk]; simp

end Go.Proofs.Ytlandkindbmbfaa.Plain
/-
  The walk of edictlaw10.same, and what the parts of the special laws are told of patterns made by proper, merged and put. Conditions: the numbers are ints, the lists within the form's own reach.
-/
namespace Go.Proofs.Ytlandkindbmbfaa
open Go.RowKit Plain

set_option maxRecDepth 100000 in
set_option maxHeartbeats 1600000 in
theorem same_any (s t : Shp) (x y : Value) (w : World) (hx : ShpAt w w.heap.size x s) (hy : ShpAt w w.heap.size y t) (hs : Okay s) (ht : Okay t) :
    Calls Try.prog 32 #[x, y] w (BoolIs w (sameB s t)) := by
  obtain ⟨u, rfl, hu⟩ := hx
  obtain ⟨v, rfl, hv⟩ := hy
  obtain ⟨a, ca, rfl, _⟩ := id hu
  obtain ⟨b, cb, rfl, _⟩ := id hv
  have hls := hs.len
  have hlt := ht.len
  obtain ⟨W0, hW0⟩ : ∃ W0, W0 = (w.alloc (.cells #[.int .i64 s.pred, .slice a s.cells.length ca] 27)).alloc (.cells #[.int .i64 t.pred, .slice b t.cells.length cb] 27) := ⟨_, rfl⟩
  have hz0 : W0.heap.size = w.heap.size + 2 := by rw [hW0]; simp
  have HB0 := Lib.hid (show Below w.heap.size w W0 by rw [hW0]; exact ((Below.refl _ _).alloc (Nat.le_refl _) _).alloc (by simp) _)
  have HI := Lib.hid (ints_any s.cells t.cells _ _ W0 ((hu.below HB0.out).mono (by omega)) ((hv.below HB0.out).mono (by omega)) hls hlt)
  clear hu hv
  by_cases hp : s.pred = t.pred
  · have hpn : (s.pred == t.pred) = true := by simp [hp]
    have HR := Lib.hid (show decide (s.cells = t.cells) = sameB s t by unfold sameB; rw [decide_eq_true hp]; rfl)
    clear hp
    go_enter Try.func32, Try.ntmps32
    go_wp2_with fail
    rw [← hW0]
    clear hW0
    refine HI.out.mono ?_
    rintro e w1 ⟨rfl, hb1⟩
    rw [HR.out]
    go_wp2
    go_ret
    exact ⟨rfl, HB0.out.trans (hb1.mono (by omega))⟩
  · have hpn : (s.pred == t.pred) = false := by simpa using hp
    have HR := Lib.hid (sameB_pred hp)
    clear hp HI
    go_enter Try.func32, Try.ntmps32
    go_wp2
    go_ret
    refine ⟨ret_bool HR.out.symm, ?_⟩
    rw [← hW0]; exact HB0.out

def prP (p : Int) : Int := if p < 0 then 0 else p
theorem proper_any (p : Int) (l : List Slt) (v : Value) (w : World) (hv : SlotsAt w w.heap.size v l) (hn : l.length ≤ 8796093021952) :
    Calls Try.prog 22 #[.agg #[.int .i64 p, v]] w (PatIs (prP p) (l.map pf) w) := by
  by_cases hp : p < 0
  · have := proper_neg p l hp v w hv hn
    unfold prP; rw [if_pos hp]; exact this
  · have := proper_pos p l (by omega) v w hv hn
    unfold prP; rw [if_neg hp]; exact this
theorem prP_ok {p : Int} (h : -9223372036854775808 ≤ p ∧ p ≤ 9223372036854775807) : 0 ≤ prP p ∧ prP p ≤ 9223372036854775807 := by unfold prP; split <;> omega
theorem pf_ok (l : List Slt) : (l.map pf).all okSlt = true := by
  rw [List.all_eq_true]
  intro a ha
  obtain ⟨b, hb, rfl⟩ := List.mem_map.1 ha
  obtain ⟨c, n⟩ := b
  cases c <;> simp [pf, okSlt]
  split <;> omega
theorem mf_ok {l : List Slt} (x y : Int) (h : l.all okSlt = true) : (l.map (mf x y)).all okSlt = true := by
  rw [List.all_eq_true] at h ⊢
  intro a ha
  obtain ⟨b, hb, rfl⟩ := List.mem_map.1 ha
  unfold mf; split
  · rfl
  · exact h b hb
theorem uf_ok {l : List Slt} (x c : Int) (h : l.all okSlt = true) : (l.map (uf x c)).all okSlt = true := by
  rw [List.all_eq_true] at h ⊢
  intro a ha
  obtain ⟨b, hb, rfl⟩ := List.mem_map.1 ha
  unfold uf; split
  · simp [okSlt]; split <;> omega
  · exact h b hb
theorem pf_i64 {l : List Slt} (h : I64l l) : I64l (l.map pf) := by
  intro a ha
  obtain ⟨b, hb, rfl⟩ := List.mem_map.1 ha
  have := h b hb
  obtain ⟨c, n⟩ := b
  cases c
  · simp only [pf] at this ⊢; simp; split <;> omega
  · exact this
theorem mf_i64 {l : List Slt} (x y : Int) (hy : -9223372036854775808 ≤ y ∧ y ≤ 9223372036854775807) (h : I64l l) : I64l (l.map (mf x y)) := by
  intro a ha
  obtain ⟨b, hb, rfl⟩ := List.mem_map.1 ha
  unfold mf; split
  · exact hy
  · exact h b hb
theorem uf_i64 {l : List Slt} (x c : Int) (hc : -9223372036854775808 ≤ c ∧ c ≤ 9223372036854775807) (h : I64l l) : I64l (l.map (uf x c)) := by
  intro a ha
  obtain ⟨b, hb, rfl⟩ := List.mem_map.1 ha
  unfold uf; split
  · simp only; split <;> omega
  · exact h b hb
theorem shape_okay_big {p : Int} {l : List Slt} (hp : 0 ≤ p ∧ p ≤ 9223372036854775807) (hl : l.all okSlt = true) (hi : I64l l) (hn : l.length ≤ 8796093022000) : Okay (shapeB p l) ∧ (shapeB p l).cells.length ≤ 17592186044400 := by
  rw [shapeB_ok hp.1 hl]
  refine ⟨⟨by simp only; omega, by simp only; omega, fun j => ?_, by simp only [List.length_map]; omega⟩, by simp only [List.length_map]; omega⟩
  by_cases hj : j < l.length
  · have hai : l[j]? = some l[j] := List.getElem?_eq_getElem hj
    generalize l[j] = a at hai
    obtain ⟨b, n⟩ := a
    rw [at_map (f := cellOf l) hai]
    cases b with
    | false => exact hi _ (List.mem_of_getElem? hai)
    | true => have := firstV_le hai; simp only [cellOf, if_true]; omega
  · unfold at'; rw [List.getElem?_eq_none (by simp; omega)]; simp
theorem shape_okay {p : Int} {l : List Slt} (hp : 0 ≤ p ∧ p ≤ 9223372036854775807) (hl : l.all okSlt = true) (hi : I64l l) (hn : l.length ≤ 8796093021952) : Okay (shapeB p l) ∧ (shapeB p l).cells.length ≤ 17592186044400 :=
  shape_okay_big hp hl hi (Nat.le_trans hn (by decide))
theorem mf_const (x y c : Int) : mf x y (false, c) = (false, c) := by simp [mf, Plain.isVar]
theorem uf_const (x y c : Int) : uf x y (false, c) = (false, c) := by simp [uf, Plain.isVar]

end Go.Proofs.Ytlandkindbmbfaa
/-
  Boxes: local variables that hold a shape, a pattern, a turn; what is known of them outlives whatever grows elsewhere. And the arguments that the outright laws open. No condition beyond those that each lemma states.
-/
namespace Go.Proofs.Ytlandkindbmbfaa
open Go.RowKit Plain

def ShBox (w : World) (X : Nat) (s : Shp) (v : Value) : Prop := w.cell? ⟨X, 0, none⟩ = some (.int .i64 s.pred) ∧ w.cell? ⟨X, 1, none⟩ = some v ∧ IntsAt w w.heap.size v s.cells ∧ X < w.heap.size
def PatBox (w : World) (X : Nat) (p : Int) (l : List Slt) (v : Value) : Prop := w.cell? ⟨X, 0, none⟩ = some (.int .i64 p) ∧ w.cell? ⟨X, 1, none⟩ = some v ∧ SlotsAt w w.heap.size v l ∧ X < w.heap.size
def TurnBox (w : World) (X : Nat) (x y z : Int) : Prop := w.cell? ⟨X, 0, none⟩ = some (.int .i64 x) ∧ w.cell? ⟨X, 1, none⟩ = some (.int .i64 y) ∧ w.cell? ⟨X, 2, none⟩ = some (.int .i64 z) ∧ X < w.heap.size
section
variable {w w' : World} {X : Nat} {s : Shp} {v : Value} {p : Int} {l : List Slt} {x y z : Int}
theorem ShBox.below (h : ShBox w X s v) (hb : Below w.heap.size w w') : ShBox w' X s v :=
  ⟨below_cells hb h.2.2.2 h.1, below_cells hb h.2.2.2 h.2.1, (h.2.2.1.below hb).mono hb.size, Nat.lt_of_lt_of_le h.2.2.2 hb.size⟩
theorem PatBox.below (h : PatBox w X p l v) (hb : Below w.heap.size w w') : PatBox w' X p l v :=
  ⟨below_cells hb h.2.2.2 h.1, below_cells hb h.2.2.2 h.2.1, (h.2.2.1.below hb).mono hb.size, Nat.lt_of_lt_of_le h.2.2.2 hb.size⟩
theorem TurnBox.below (h : TurnBox w X x y z) (hb : Below w.heap.size w w') : TurnBox w' X x y z :=
  ⟨below_cells hb h.2.2.2 h.1, below_cells hb h.2.2.2 h.2.1, below_cells hb h.2.2.2 h.2.2.1, Nat.lt_of_lt_of_le h.2.2.2 hb.size⟩
theorem up_alloc (w : World) (o : Obj) : Below w.heap.size w (w.alloc o) := (Below.refl _ _).alloc (Nat.le_refl _) o
theorem ShBox.made (h : IntsAt w w.heap.size v s.cells) : ShBox (w.alloc (.cells #[.int .i64 s.pred, v] 27)) w.heap.size s v :=
  ⟨by simp, by simp, (h.below (up_alloc w _)).mono (up_alloc w _).size, by simp⟩
theorem ShBox.made33 (h : IntsAt w w.heap.size v s.cells) : ShBox (w.alloc (.cells #[.int .i64 s.pred, v] 33)) w.heap.size s v :=
  ⟨by simp, by simp, (h.below (up_alloc w _)).mono (up_alloc w _).size, by simp⟩
theorem PatBox.made (h : SlotsAt w w.heap.size v l) : PatBox (w.alloc (.cells #[.int .i64 p, v] 39)) w.heap.size p l v :=
  ⟨by simp, by simp, (h.below (up_alloc w _)).mono (up_alloc w _).size, by simp⟩
theorem TurnBox.made : TurnBox (w.alloc (.cells #[.int .i64 x, .int .i64 y, .int .i64 z] 41)) w.heap.size x y z :=
  ⟨by simp, by simp, by simp, by simp⟩
end

/-! ### Arguments -/
def Bnd (n : Int) : Prop := -9223372036854775808 ≤ n ∧ n ≤ 9223372036854775807
def PatArg (w : World) (v : Value) (x : Int × List Slt) : Prop := ∃ u, v = .agg #[.int .i64 x.1, u] ∧ SlotsAt w w.heap.size u x.2 ∧ I64l x.2 ∧ x.2.length ≤ 8796093021952 ∧ Bnd x.1
def TurnArg (v : Value) (x : Int × Int × Int) : Prop := v = .agg #[.int .i64 x.1, .int .i64 x.2.1, .int .i64 x.2.2] ∧ Bnd x.1 ∧ Bnd x.2.1 ∧ Bnd x.2.2
def RowArg (w : World) (v : Value) (s : Shp) : Prop := ∃ u, v = .agg #[.int .i64 s.pred, u] ∧ IntsAt w w.heap.size u s.cells ∧ Nilly u ∧ Okay s ∧ s.cells.length ≤ 17592186044400

end Go.Proofs.Ytlandkindbmbfaa
/-
  Plain laws of lists of shapes: which stand there; the distinct shapes of some patterns. No program is in sight here; no condition beyond those that each lemma states.
-/
namespace Go.Proofs.Ytlandkindbmbfaa.Plain

theorem sameB_symm (s t : Shp) : sameB s t = sameB t s := by
  unfold sameB
  rw [Bool.eq_iff_iff]; simp only [Bool.and_eq_true, decide_eq_true_eq]
  exact ⟨fun h => ⟨h.1.symm, h.2.symm⟩, fun h => ⟨h.1.symm, h.2.symm⟩⟩
def standsB (l : List Shp) (s : Shp) : Bool := l.any (sameB s)
/-- None of the first k is s. -/
def NoTo (l : List Shp) (s : Shp) (k : Nat) : Prop := ∀ (j : Nat) (t : Shp), j < k → l[j]? = some t → sameB s t = false
theorem NoTo.start (l : List Shp) (s : Shp) : NoTo l s 0 := fun j t h => by omega
theorem NoTo.round {l : List Shp} {s t : Shp} {k : Nat} (h : NoTo l s k) (hk : l[k]? = some t) (hf : sameB s t = false) : NoTo l s (k + 1) := fun j u hj hu => by
  by_cases e : j = k
  · subst e; rw [hk] at hu; obtain rfl := Option.some.inj hu; exact hf
  · exact h j u (by omega) hu
theorem stands_yes {l : List Shp} {s t : Shp} {k : Nat} (hk : l[k]? = some t) (h : sameB s t = true) : standsB l s = true := by
  unfold standsB; exact List.any_eq_true.2 ⟨t, List.mem_of_getElem? hk, h⟩
theorem stands_no {l : List Shp} {s : Shp} (h : NoTo l s l.length) : standsB l s = false := by
  rw [Bool.eq_false_iff]
  intro e
  obtain ⟨t, ht, hs⟩ := List.any_eq_true.1 e
  obtain ⟨k, hk, rfl⟩ := List.getElem_of_mem ht
  have := h k _ hk (List.getElem?_eq_getElem hk)
  rw [this] at hs; cases hs

abbrev Pt := Int × List Slt
def shp (x : Pt) : Shp := shapeB x.1 x.2
def stepD (acc : List Shp) (x : Pt) : List Shp := if decide (0 ≤ (shp x).pred) && !(standsB acc (shp x)) then acc ++ [shp x] else acc
def distB (ps : List Pt) : List Shp := ps.foldl stepD []
theorem distB_next {ps : List Pt} {i : Nat} {x : Pt} (h : ps[i]? = some x) : distB (ps.take (i + 1)) = stepD (distB (ps.take i)) x := by
  unfold distB; rw [take_one h, List.foldl_append]; rfl
theorem stepD_yes {acc : List Shp} {x : Pt} (h : 0 ≤ (shp x).pred) (hs : standsB acc (shp x) = false) : stepD acc x = acc ++ [shp x] := by
  unfold stepD; rw [decide_eq_true h, hs]; rfl
theorem stepD_neg {acc : List Shp} {x : Pt} (h : (shp x).pred < 0) : stepD acc x = acc := by
  unfold stepD; rw [decide_eq_false (by omega)]; rfl
theorem stepD_old {acc : List Shp} {x : Pt} (hs : standsB acc (shp x) = true) : stepD acc x = acc := by
  unfold stepD; rw [hs, Bool.not_true, Bool.and_false]; rfl
theorem distB_len (ps : List Pt) : (distB ps).length ≤ ps.length := by
  have : ∀ (l : List Pt) (acc : List Shp), (l.foldl stepD acc).length ≤ acc.length + l.length := by
    intro l
    induction l with
    | nil => intro acc; simp
    | cons x l ih =>
      intro acc
      rw [List.foldl_cons, List.length_cons]
      have h1 := ih (stepD acc x)
      have h2 : (stepD acc x).length ≤ acc.length + 1 := by unfold stepD; split <;> simp
      omega
  have := this ps []
  simpa [distB] using this
theorem distB_mem {ps : List Pt} {s : Shp} (h : s ∈ distB ps) : ∃ x, x ∈ ps ∧ s = shp x := by
  have : ∀ (l : List Pt) (acc : List Shp), s ∈ l.foldl stepD acc → s ∈ acc ∨ ∃ x, x ∈ l ∧ s = shp x := by
    intro l
    induction l with
    | nil => intro acc h; exact .inl h
    | cons x l ih =>
      intro acc h
      rw [List.foldl_cons] at h
      rcases ih _ h with h | ⟨y, hy, e⟩
      · unfold stepD at h
        split at h
        · rcases List.mem_append.1 h with h | h
          · exact .inl h
          · exact .inr ⟨x, by simp, by simpa using h⟩
        · exact .inl h
      · exact .inr ⟨y, List.mem_cons_of_mem _ hy, e⟩
  rcases this ps [] h with h | h
  · simp at h
  · exact h
theorem shape_valid_iff (p : Int) (l : List Slt) : validB (shapeB p l) = decide (0 ≤ (shapeB p l).pred) := by
  by_cases h : 0 ≤ p ∧ l.all okSlt = true
  · rw [shape_valid h.1 h.2, shapeB_ok h.1 h.2]; exact (decide_eq_true h.1).symm
  · have : shapeB p l = ⟨-1, []⟩ := by
      unfold shapeB
      rw [if_neg]
      simp only [Bool.and_eq_true, decide_eq_true_eq]
      exact h
    rw [this]; rfl

end Go.Proofs.Ytlandkindbmbfaa.Plain
