/-
  The walk of edictlaw10.instance: whether some numbers in place of a pattern's variables make it the row. Conditions: the numbers are ints, the lists within the form's own reach.
-/
import Derived.Test.YtlandkindbmbfaaW11
import Derived.Test.YtlandkindbmbfaaPlain4
namespace Go.Proofs.Ytlandkindbmbfaa
open Go.RowKit Plain
attribute [local go_sem ↓] Go.wp_at_zero Go.wp_at_succ

/-- The cells of a list of pairs. -/
def plits : List (Int × Int) → List Value
  | [] => []
  | a :: l => .int .i64 a.1 :: .int .i64 a.2 :: plits l
theorem plits_snoc : ∀ (l : List (Int × Int)) (a : Int × Int), plits (l ++ [a]) = plits l ++ [.int .i64 a.1, .int .i64 a.2]
  | [], _ => rfl
  | b :: l, a => by simp [plits, plits_snoc l a]
theorem plits_get : ∀ (l : List (Int × Int)) (j : Nat) (b n : Int), l[j]? = some (b, n) → (plits l)[j * 2]? = some (.int .i64 b) ∧ (plits l)[j * 2 + 1]? = some (.int .i64 n)
  | [], _, _, _, h => by simp at h
  | a :: l, 0, b, n, h => by simp at h; subst h; exact ⟨rfl, rfl⟩
  | a :: l, j + 1, b, n, h => by
    have := plits_get l j b n (by simpa using h)
    rw [show (j + 1) * 2 = j * 2 + 1 + 1 by omega]
    exact this
def OwnPairs (w : World) (B : Nat) (v : Value) (l : List (Int × Int)) : Prop := w.ownsRow B 95 2 v l.length (plits l)
theorem OwnPairs.nil (w : World) (B : Nat) : OwnPairs w B (.slice none 0 0) [] := World.ownsRow_nil _ _ _ _
theorem OwnPairs.heap {w w' : World} {B : Nat} {v : Value} {l : List (Int × Int)} (h : OwnPairs w B v l) (e : w'.heap = w.heap) : OwnPairs w' B v l := by unfold OwnPairs World.ownsRow at *; rw [e]; exact h
theorem OwnPairs.get {w : World} {B g c : Nat} {l : List (Int × Int)} (h : OwnPairs w B (.slice (some ⟨g, 0, none⟩) l.length c) l) {j : Nat} {b n : Int} (hj : l[j]? = some (b, n)) :
    w.cell? ⟨g, j * 2, none⟩ = some (.int .i64 b) ∧ w.cell? ⟨g, j * 2 + 1, none⟩ = some (.int .i64 n) := by
  have hj' : j < l.length := (List.getElem?_eq_some_iff.1 hj).1
  have hf := plits_get l j b n hj
  exact ⟨by rw [World.ownsRow.cellAt h (j * 2) (by omega)]; exact hf.1, by rw [World.ownsRow.cellAt h (j * 2 + 1) (by omega)]; exact hf.2⟩
theorem OwnPairs.form {w : World} {B : Nat} {v : Value} {l : List (Int × Int)} (h : OwnPairs w B v l) : ∃ ao c, v = .slice ao l.length c ∧ (l ≠ [] → ∃ g, ao = some ⟨g, 0, none⟩) := by
  rcases Joins.ownsRow_forms h with ⟨rfl, h0⟩ | ⟨g, cap, rfl⟩
  · exact ⟨none, 0, by rw [h0], fun hn => absurd (List.length_eq_zero_iff.1 h0) hn⟩
  · exact ⟨some ⟨g, 0, none⟩, cap, rfl, fun _ => ⟨g, rfl⟩⟩
theorem block_apart {w : World} {B Z : Nat} {cs : Array Value} {f : Nat × Nat} {v : Value} {n : Nat} {xs : List Value} (h : w.heap[Z]? = some (.cells cs 53 f)) (ho : w.ownsRow B 95 2 v n xs) : some Z ≠ v.ownBlock := by
  rcases ho.2 with ⟨rfl, _⟩ | ⟨g, cap, cur, rfl, _, hg, _⟩
  · simp [Value.ownBlock]
  · intro e
    have e2 : Z = g := by simpa [Value.ownBlock] using e
    subst e2
    rw [h] at hg
    simp at hg
theorem cell_heap {w w' : World} {a : Addr} {v : Value} (h : w.cell? a = some v) (e : w'.heap = w.heap) : w'.cell? a = some v := (World.cell?_of_block (by rw [e])).trans h
theorem Try.info95 : (Try.prog.info? 95).map (fun i => (i.zero, i.size, i.bytes)) = some (some (.agg #[.int .i64 0, .int .i64 0]), 2, 16) := by kernel_rfl
theorem one_pair (b n : Int) : ∀ u ∈ [Value.int .i64 b, Value.int .i64 n], u.oneCell' = true := by
  intro u hu
  simp only [List.mem_cons, List.not_mem_nil, or_false] at hu
  rcases hu with rfl | rfl <;> rfl
theorem pairs_snoc {B : Nat} {w wr w1 : World} {v v' : Value} {l : List (Int × Int)} {x y : Int} {o : Obj} (hB : B ≤ wr.heap.size)
    (hown : OwnPairs wr B v l) (hnx : Below B w wr)
    (hown' : w1.ownsRow B 95 2 v' (l.length + 1) (plits l ++ [.int .i64 x, .int .i64 y])) (hgrow : (wr.alloc o).grownBy w1 v.ownBlock) :
    OwnPairs w1 B v' (l ++ [(x, y)]) ∧ Below B w w1 := by
  refine ⟨by unfold OwnPairs; rw [plits_snoc, List.length_append, List.length_singleton]; exact hown', ?_⟩
  exact (hnx.alloc hB o).grown hgrow (by simp; omega) (fun j hj => (hown.lt j hj).1)

def InRel (l : List Slt) (args : List Int) (W0 : World) (v k : Value) (wr : World) : Prop :=
  ∃ (o : Value) (B : List (Int × Int)) (i : Nat), o = v ∧ k = .int .i64 (i : Int) ∧ i ≤ args.length ∧ B.length ≤ i ∧ Below W0.heap.size W0 wr ∧ OwnPairs wr W0.heap.size o B ∧ Bd l args i B ∧ AllTo (instAt l args) i

set_option maxRecDepth 100000 in
set_option maxHeartbeats 6400000 in
theorem instance_any (p : Int) (l : List Slt) (q : Int) (args : List Int) (v u : Value) (w : World) (hv : SlotsAt w w.heap.size v l) (hn : l.length ≤ 8796093021952) (hu : IntsAt w w.heap.size u args) :
    Calls Try.prog 24 #[.agg #[.int .i64 p, v], .int .i64 q, u] w (BoolIs w (instB p l q args)) := by
  obtain ⟨i95, pi, p0, p1, p2⟩ := info_parts Try.info95
  obtain ⟨V, hV⟩ : ∃ V, V = instB p l q args := ⟨_, rfl⟩
  rw [← hV]
  have HV := Lib.hid hV
  clear hV
  obtain ⟨a, cap, rfl, ha⟩ := hv.form
  obtain ⟨au, cu, rfl, hau⟩ := hu
  have HA := Lib.hid ha
  have HU := Lib.hid hau
  by_cases hp : p = q
  · by_cases hl : l.length = args.length
    · have hpn : (p != q) = false := by simp [hp]
      have hln : ((l.length : Int) != (l.length : Int)) = false := by simp
      have HP := Lib.hid hp
      have HL := Lib.hid hl
      obtain ⟨W0, hW0⟩ : ∃ W0, W0 = w.alloc (.cells #[.int .i64 p, .slice a l.length cap] 39) := ⟨_, rfl⟩
      have hz0 : W0.heap.size = w.heap.size + 1 := by rw [hW0]; simp
      have HB0 := Lib.hid (show Below w.heap.size w W0 by rw [hW0]; exact (Below.refl _ _).alloc (Nat.le_refl _) _)
      have HK := Lib.hid (show W0.cell? ⟨w.heap.size, 1, none⟩ = some (.slice a l.length cap) by rw [hW0]; simp)
      have HS := Lib.hid (hv.below HB0.out)
      rw [← hl]
      clear hv ha hau hp hl
      go_enter Try.func24, Try.ntmps24
      go_wp2
      rw [← hW0]
      clear hW0 hpn hln
      go_loopw [7, 8] (fun v k wr => InRel l args W0 v k wr) (fun _ k _ => l.length - (intOf k).toNat)
      case atStart => exact ⟨_, [], 0, rfl, rfl, Nat.zero_le _, Nat.le_refl _, Below.refl _ _, OwnPairs.nil _ _, Bd.start _ _, AllTo.start _⟩
      case round =>
        obtain ⟨v, B, i, rfl, rfl, hil, hBl, hnx, hown, hbd, hall⟩ := hrel
        rw [← HL.out] at hil
        have hsz := hnx.size
        have ka := below_cells hnx (p := ⟨w.heap.size, 1, none⟩) (show w.heap.size < W0.heap.size by omega) HK.out
        have NX := Lib.hid hnx
        have HO := Lib.hid hown
        have HBD := Lib.hid hbd
        have HALL := Lib.hid hall
        clear hnx hown hbd hall
        by_cases h1 : i < l.length
        · obtain ⟨g, off, rfl⟩ := HA.out (ne_of_lt_len h1)
          obtain ⟨gu, offu, rfl, hgu, hcu⟩ := HU.out.resolve_left (fun e => by rw [HL.out, e] at h1; simp at h1)
          obtain ⟨b, n, hsi⟩ : ∃ b n, l[i]? = some (b, n) := ⟨l[i].1, l[i].2, List.getElem?_eq_getElem h1⟩
          obtain ⟨hg, c0, c1⟩ := SlotsAt.get ((HS.out.mono (show w.heap.size ≤ W0.heap.size by omega)).below NX.out) hsi
          obtain ⟨y, hy⟩ : ∃ y, y = at' args i := ⟨_, rfl⟩
          have hB : wr.cell? ⟨gu, offu + i, none⟩ = some (.int .i64 y) := by
            rw [hy]; exact below_cells NX.out (show gu < W0.heap.size by omega) (below_cells HB0.out hgu (hcu i (by rw [← HL.out]; exact h1)))
          have HI := Lib.hid hsi
          have HY := Lib.hid hy
          have i0 : (0 : Int) ≤ (i : Int) := Int.natCast_nonneg _
          have i1 : (i : Int) < (l.length : Int) := by omega
          clear hsi hy hcu
          cases b with
          | false =>
            have bA : (wr.alloc (.cells #[.bool false, .int .i64 n] 53)).cell? ⟨wr.heap.size, 1, none⟩ = some (.int .i64 n) := by simp
            have bB : (wr.alloc (.cells #[.bool false, .int .i64 n] 53)).cell? ⟨gu, offu + i, none⟩ = some (.int .i64 y) := (World.cell?_alloc_past _ _ _ (show gu < _ by omega)).trans hB
            by_cases he : n = y
            · have hb : (y != y) = false := by simp
              have HN := Lib.hid (HALL.out.round (by rw [instAt_const HI.out HY.out, he]; simp))
              subst he
              go_wp2_with fail
              go_quiet (fail)
              generalize hW : (wr.alloc (.cells #[.bool false, .int .i64 n] 53)).drewN _ = w2
              have NX2 := Lib.hid (show Below W0.heap.size W0 w2 by rw [← hW]; exact below_drewN (NX.out.alloc hsz _))
              have HO2 := Lib.hid (show OwnPairs w2 W0.heap.size v B by rw [← hW]; exact (World.ownsRow.alloc HO.out _))
              clear hW hb bA bB
              go_wp2
              go_roundw
              case rel => exact ⟨_, B, i + 1, rfl, by go_num, by rw [← HL.out]; omega, by omega, NX2.out, HO2.out, HBD.out.const HI.out, HN.out⟩
              case measure => simp only [intOf]; omega
            · have hb : (n != y) = true := by simpa using he
              have HR := Lib.hid (show V = false by rw [HV.out]; exact instB_bad (i := i) (by rw [← HL.out]; exact h1) (by rw [instAt_const HI.out HY.out]; simpa using fun e => he e.symm))
              clear he HV
              go_wp2_with fail
              go_quiet (fail)
              generalize hW : (wr.alloc (.cells #[.bool false, .int .i64 n] 53)).drewN _ = w2
              have NX2 := Lib.hid (show Below W0.heap.size W0 w2 by rw [← hW]; exact below_drewN (NX.out.alloc hsz _))
              clear hW hb bA bB
              go_wp2
              go_ret
              exact ⟨ret_bool HR.out.symm, HB0.out.trans (NX2.out.mono (by omega))⟩
          | true =>
            obtain ⟨Z, hZ⟩ : ∃ Z, Z = wr.heap.size := ⟨_, rfl⟩
            obtain ⟨wa, hwa⟩ : ∃ wa, wa = wr.alloc (.cells #[.bool true, .int .i64 n] 53) := ⟨_, rfl⟩
            have bH := Lib.hid (show wa.heap[Z]? = some (.cells #[.bool true, .int .i64 n] 53 (0, 0)) by rw [hwa, hZ]; exact heap_alloc_new _ _)
            have bA := Lib.hid (show wa.cell? ⟨Z, 1, none⟩ = some (.int .i64 n) by have := bH.out; simp only [World.cell?, this]; rfl)
            have bB := Lib.hid (show wa.cell? ⟨gu, offu + i, none⟩ = some (.int .i64 y) by rw [hwa]; exact (World.cell?_alloc_past _ _ _ (show gu < _ by omega)).trans hB)
            have NXA := Lib.hid (show Below W0.heap.size W0 wa by rw [hwa]; exact NX.out.alloc hsz _)
            have HOA := Lib.hid (show OwnPairs wa W0.heap.size v B by rw [hwa]; exact (World.ownsRow.alloc HO.out _))
            have hza : wa.heap.size = Z + 1 := by rw [hwa, hZ]; simp
            have hgz : gu < Z := by omega
            obtain ⟨ao, cb, rfl, hao⟩ := HOA.out.form
            have HAO := Lib.hid hao
            clear hao
            go_wp2
            rw [← hwa, ← hZ]
            clear hwa hZ c0 c1 hB ka
            go_loopw [10, 11] (fun o k wx => ∃ (old : Bool) (j : Nat), o = .bool old ∧ k = .int .i64 (j : Int) ∧ j ≤ B.length ∧ wx.heap = wa.heap ∧ Below W0.heap.size W0 wx ∧ Hid (Sc B n y j old)) (fun _ k _ => B.length - (intOf k).toNat)
            case atStart => exact ⟨false, 0, rfl, rfl, Nat.zero_le _, rfl, NXA.out, Sc.start B n y⟩
            case round =>
              obtain ⟨old, j, rfl, rfl, hjl, hheap, hnx, hsc⟩ := hrel
              have NXX := Lib.hid hnx
              have HH := Lib.hid hheap
              clear hnx hheap
              by_cases hj : j < B.length
              · obtain ⟨gb, rfl⟩ := HAO.out (ne_of_lt_len hj)
                obtain ⟨m, z, hbj⟩ : ∃ m z, B[j]? = some (m, z) := ⟨B[j].1, B[j].2, List.getElem?_eq_getElem hj⟩
                obtain ⟨d0, d1⟩ := HOA.out.get hbj
                have D1 := Lib.hid d1
                have HBJ := Lib.hid hbj
                have d0 := cell_heap d0 HH.out
                have d2 := cell_heap bA.out HH.out
                have j0 : (0 : Int) ≤ (j : Int) := Int.natCast_nonneg _
                have j1 : (j : Int) < (B.length : Int) := by omega
                clear hbj d1
                by_cases hm : m = n
                · have hb : (m == n) = true := by simp [hm]
                  have HM := Lib.hid hm
                  clear hm
                  go_wp2_with fail
                  go_quiet (fail)
                  generalize hW : wr.drewN _ = w2
                  have H2 := Lib.hid (show w2.heap = wa.heap by rw [← hW]; exact HH.out)
                  have NX2 := Lib.hid (show Below W0.heap.size W0 w2 by rw [← hW]; exact below_drewN NXX.out)
                  clear hW hb d0 d2 HH NXX
                  have d1 := cell_heap D1.out H2.out
                  have d3 := cell_heap bB.out H2.out
                  by_cases hz : z = y
                  · have hb : (z != y) = false := by simp [hz]
                    have HS2 := Lib.hid (hsc.out.hit (by rw [HBJ.out, HM.out, hz]))
                    clear hz
                    go_wp2_with fail
                    go_quiet (fail)
                    generalize hW : w2.drewN _ = w3
                    have H3 := Lib.hid (show w3.heap = wa.heap by rw [← hW]; exact H2.out)
                    have NX3 := Lib.hid (show Below W0.heap.size W0 w3 by rw [← hW]; exact below_drewN NX2.out)
                    clear hW hb d1 d3
                    go_wp2
                    go_roundw
                    case rel => exact ⟨true, j + 1, rfl, by go_num, by omega, H3.out, NX3.out, HS2.out⟩
                    case measure => simp only [intOf]; omega
                  · have hb : (z != y) = true := by simpa using hz
                    have HR := Lib.hid (show V = false by rw [HV.out]; exact instB_bad (i := i) (by rw [← HL.out]; exact h1) (HBD.out.bad (n := n) (by rw [HBJ.out, HM.out]) HI.out HY.out hz))
                    clear hz HV
                    go_wp2_with fail
                    go_quiet (fail)
                    generalize hW : w2.drewN _ = w3
                    have NX3 := Lib.hid (show Below W0.heap.size W0 w3 by rw [← hW]; exact below_drewN NX2.out)
                    clear hW hb d1 d3
                    go_wp2
                    go_ret
                    exact ⟨ret_bool HR.out.symm, HB0.out.trans (NX3.out.mono (by omega))⟩
                · have hb : (m == n) = false := by simpa using hm
                  have HS2 := Lib.hid (hsc.out.skip HBJ.out hm)
                  clear hm
                  go_wp2_with fail
                  go_quiet (fail)
                  generalize hW : wr.drewN _ = w2
                  have H2 := Lib.hid (show w2.heap = wa.heap by rw [← hW]; exact HH.out)
                  have NX2 := Lib.hid (show Below W0.heap.size W0 w2 by rw [← hW]; exact below_drewN NXX.out)
                  clear hW hb d0 d2 HH NXX
                  go_wp2
                  go_roundw
                  case rel => exact ⟨old, j + 1, rfl, by go_num, by omega, H2.out, NX2.out, HS2.out⟩
                  case measure => simp only [intOf]; omega
              · have e : j = B.length := by omega
                have HE := Lib.hid e
                have hnj : ¬ (j : Int) < (B.length : Int) := by omega
                clear e
                cases old with
                | true =>
                  have hyes := (show Sc B n y B.length true by rw [← HE.out]; exact hsc.out).yes HBD.out
                  have HN := Lib.hid (HALL.out.round (by rw [instAt_var HI.out HY.out, hyes.2]; simp))
                  have HBD2 := Lib.hid (HBD.out.old HI.out hyes.1)
                  have HO2 := Lib.hid (HOA.out.heap HH.out)
                  clear hyes
                  go_wp2
                  go_roundw
                  case rel => exact ⟨_, B, i + 1, rfl, by go_num, by rw [← HL.out]; omega, by omega, NXX.out, HO2.out, HBD2.out, HN.out⟩
                  case measure => simp only [intOf]; omega
                | false =>
                  have hno := (show Sc B n y B.length false by rw [← HE.out]; exact hsc.out).no HBD.out
                  have hf : firstV l n = i := by have := firstV_le HI.out; omega
                  have HN := Lib.hid (HALL.out.round (by rw [instAt_var HI.out HY.out, hf, ← HY.out]; simp))
                  have HBD2 := Lib.hid (HBD.out.new HI.out hno HY.out)
                  have HO2 := Lib.hid (HOA.out.heap HH.out)
                  have d2 := cell_heap bA.out HH.out
                  have d3 := cell_heap bB.out HH.out
                  have hzx : W0.heap.size ≤ wr.heap.size := NXX.out.size
                  have hgx : gu < wr.heap.size := by omega
                  have hZ2 : wr.heap[Z]? = some (.cells #[.bool true, .int .i64 n] 53 (0, 0)) := by rw [HH.out]; exact bH.out
                  have hwr : Z < wr.heap.size := by have := HH.out; rw [this]; omega
                  have k2 : (wr.alloc (.cells #[.int .i64 n, .int .i64 y] 95)).cell? ⟨Z, 1, none⟩ = some (.int .i64 n) := (World.cell?_alloc_past _ _ _ (show Z < _ by omega)).trans d2
                  have k3 : (wr.alloc (.cells #[.int .i64 n, .int .i64 y] 95)).cell? ⟨gu, offu + i, none⟩ = some (.int .i64 y) := (World.cell?_alloc_past _ _ _ (show gu < _ by omega)).trans d3
                  have hbl2 : B.length ≤ 8796093021952 := by omega
                  have hown2 : wr.ownsRow W0.heap.size 95 2 (.slice ao B.length cb) B.length (plits B) := HO2.out
                  clear hno hf
                  go_wp2_with fail
                  go_region_held3 (fun w' => w'.cell? ⟨Z, 1, none⟩ = some (.int .i64 n) ∧ w'.cell? ⟨gu, offu + i, none⟩ = some (.int .i64 y))
                    (first | exact ⟨d2, d3⟩ | exact ⟨k2, k3⟩ | exact ⟨m2, m3⟩)
                    ((refine step_append_own _ (by rfl) _ _ 93 (by rfl) W0.heap.size 95 i95 (.agg #[.int .i64 0, .int .i64 0]) 2 16 Try.underlying93 pi p0 p1 p2 rfl (by decide) (.slice ao B.length cb) B.length (plits B) (by rfl) (by exact hown2.alloc _) ⟨wr.heap.size, 0, none⟩ 1 1 [.int .i64 n, .int .i64 y] (by rfl) (by rfl) (World.news_of_block (cs := #[.int .i64 n, .int .i64 y]) (t := 95) (fr := (0, 0)) (heap_alloc_new wr _)) (one_pair n y) (by unfold maxLen; omega) (by omega) (by simp; omega) ?_; intro v2 w2 hown3 hgrow2 hnil2; have hgrow3 : (wr.alloc (.cells #[.int .i64 n, .int .i64 y] 95)).grownBy w2 (Value.slice ao B.length cb).ownBlock := ⟨hgrow2.os, hgrow2.tape, hgrow2.output, hgrow2.size, hgrow2.block⟩; have m2 := hgrow3.cell k2 (block_apart hZ2 hown2); have m3 := hgrow3.cell k3 (own_ge hown2 (show gu < _ by omega))))
                  have R := pairs_snoc hzx HO2.out NXX.out hown3 hgrow3
                  go_wp2
                  go_roundw
                  case rel => exact ⟨_, B ++ [(n, y)], i + 1, rfl, by go_num, by rw [← HL.out]; omega, by simp; omega, R.2, R.1, HBD2.out, HN.out⟩
                  case measure => simp only [intOf]; omega
        · have e : i = l.length := by omega
          have HR := Lib.hid (show V = true by rw [HV.out]; exact instB_true HP.out HL.out (by rw [← HL.out, ← e]; exact HALL.out))
          clear e
          go_wp2
          go_ret
          exact ⟨ret_bool HR.out.symm, HB0.out.trans (NX.out.mono (by omega))⟩
    · have hpn : (p != q) = false := by simp [hp]
      have hln : ((l.length : Int) != (args.length : Int)) = true := by simp; omega
      have HR := Lib.hid (show V = false by rw [HV.out]; exact instB_len hl)
      clear hp hl HV hv ha hau
      go_enter Try.func24, Try.ntmps24
      go_wp2
      go_ret
      exact ⟨ret_bool HR.out.symm, (Below.refl _ _).alloc (Nat.le_refl _) _⟩
  · have hpn : (p != q) = true := by simpa using hp
    have HR := Lib.hid (show V = false by rw [HV.out]; exact instB_pred hp)
    clear hp HV hv ha hau
    go_enter Try.func24, Try.ntmps24
    go_wp2
    go_ret
    exact ⟨ret_bool HR.out.symm, (Below.refl _ _).alloc (Nat.le_refl _) _⟩

end Go.Proofs.Ytlandkindbmbfaa
