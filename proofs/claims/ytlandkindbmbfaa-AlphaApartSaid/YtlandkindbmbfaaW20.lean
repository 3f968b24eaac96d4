/-
  The walk of a net's Undo: every memory's rows are cut to those that are less than the mark. Conditions: the numbers are ints, the lists within the form's own reach.
-/
import Derived.Test.YtlandkindbmbfaaW19
import Derived.Test.YtlandkindbmbfaaW14
namespace Go.Proofs.Ytlandkindbmbfaa
open Go.RowKit Plain

/-- The length of the slice in a cell. -/
def lenAt (w : World) (b : Nat) : Nat := match w.cell? ⟨b, 1, none⟩ with | some (.slice _ n _) => n | _ => 0
def undoIn (A T ls : Nat → List Int) (i r : Nat) : Nat → List Int := fun j => if j < i then A j else if j = i then A i ++ (T i).take r else ls j
def undoLs (A ls : Nat → List Int) (i : Nat) : Nat → List Int := fun j => if j < i then A j else ls j
theorem at_append_left {l m : List Int} {k : Nat} (h : k < l.length) : at' (l ++ m) k = at' l k := by unfold at'; rw [List.getElem?_append_left h]
theorem at_mem {l : List Int} {k : Nat} (h : k < l.length) : at' l k ∈ l := by unfold at'; rw [List.getElem?_eq_getElem h]; exact List.getElem_mem h
theorem at_append_take {l m : List Int} {r : Nat} : at' (l ++ m.take (r + 1)) (l.length + r) = at' m r := by
  unfold at'; rw [List.getElem?_append_right (by omega), Nat.add_sub_cancel_left, List.getElem?_take, if_pos (by omega)]

section
variable {w : World} {G : Nat → Nat} {X n : Nat} {mv : Value} {ms : List Nat} {ss : List Shp} {ls : Nat → List Int}

theorem undo_no (h : MNet w G X mv ms ss ls n) (m : Int) (hm : m < 0 ∨ (n : Int) < m) : Calls Try.prog 46 #[.pointer (some ⟨X, 0, none⟩), .int .i64 m] w fun e w' => e = .returned (.int .i64 2) ∧ w = w' := by
  have c1 := h.c1
  clear h
  by_cases h0 : m < 0
  · clear hm
    go_enter Try.func46, Try.ntmps46
    go_wp2
    go_ret
    exact ⟨rfl, rfl⟩
  · have h1 : (n : Int) < m := by omega
    clear hm
    go_enter Try.func46, Try.ntmps46
    go_wp2
    go_ret
    exact ⟨rfl, rfl⟩

theorem lenAt_set {u : World} {b k c : Nat} {a : Option Addr} {fv rv z : Value} (h : u.heap[b]? = some (.cells #[fv, rv, z] 105 (0, 0))) : lenAt (u.setCell ⟨b, 1, none⟩ (.slice a k c)) b = k := by
  have h2 := block_setCell (o := 1) (u := .slice a k c) h
  unfold lenAt
  have : (u.setCell ⟨b, 1, none⟩ (.slice a k c)).cell? ⟨b, 1, none⟩ = some (.slice a k c) := by simp only [World.cell?, h2]; rfl
  rw [this]

/-- The last row of a memory goes. -/
theorem pop_put {A T : Nat → List Int} {i b r K gr cr m n2 : Nat} {s : Shp} {l : List Int} {fv : Value} {x : Int} (h : MNet w G X mv ms ss (undoIn A T ls i r) n2) (hi : ss[i]? = some s) (hm : ms[i]? = some b)
    (hrb : w.heap[b]? = some (.cells #[fv, .slice (some ⟨gr, 0, none⟩) l.length cr, .slice none 0 0] 105 (0, 0))) (hf : FnIs w G s fv) (ho : OwnInts w 0 (.slice (some ⟨gr, 0, none⟩) l.length cr) l)
    (ht : ∀ k, (Value.slice (some ⟨gr, 0, none⟩) l.length cr).ownBlock = some k → G k = 2 * i + 4) (hl : l = A i ++ (T i).take r) (hx : x = at' l K) (hK : l.length = K + 1) (h2 : (m : Int) ≤ x) (hA : ∀ x ∈ A i, x < (m : Int)) (hr : r ≤ (T i).length) :
    ∃ r', r' ≤ (T i).length ∧ ∀ u : World, u.heap = w.heap → MNet (u.setCell ⟨b, 1, none⟩ (.slice (some ⟨gr, 0, none⟩) K cr)) G X mv ms ss (undoIn A T ls i r') n2 := by
  match r with
  | 0 =>
    exfalso
    rw [List.take_zero, List.append_nil] at hl
    have := hA _ (at_mem (l := A i) (k := K) (by rw [← hl]; omega))
    rw [← hl, ← hx] at this
    omega
  | r + 1 =>
    refine ⟨r, by omega, fun u hu => ?_⟩
    have e1 : l = (A i ++ (T i).take r) ++ [at' (T i) r] := by
      rw [hl, List.append_assoc, List.take_add_one]
      unfold at'
      rw [List.getElem?_eq_getElem (show r < (T i).length by omega)]; rfl
    have e2 : (A i ++ (T i).take r).length = K := by
      have := congrArg List.length e1
      rw [List.length_append, List.length_singleton] at this
      omega
    have ho2 : w.ownsRow 0 3 1 (.slice (some ⟨gr, 0, none⟩) (K + 1) cr) (K + 1) (lits (A i ++ (T i).take r) ++ [.int .i64 (at' (T i) r)]) := by
      have := ho
      unfold OwnInts at this
      rw [hK] at this
      rw [← lits_snoc, ← e1]; exact this
    have ho3 := prefix_own ho2 (by rw [lits_length, e2, Nat.mul_one])
    have hp := h.put (w1 := u) (G' := G) (rv' := .slice (some ⟨gr, 0, none⟩) K cr) (l' := A i ++ (T i).take r) hi hm hrb hf (fun k _ _ => by rw [hu]) (fun k _ => rfl) (fun k hk => h.zero k (by rw [← hu]; exact hk))
      (by unfold OwnInts; rw [e2]; exact row_keep ho3 (fun k _ => by rw [hu])) (fun k hk => ht k hk)
    refine hp.congr (fun j _ => ?_)
    unfold undoIn
    by_cases hj : j = i
    · subst hj; rw [if_pos rfl, if_neg (by omega), if_pos rfl]
    · rw [if_neg hj]
      split
      · rfl
      · rfl

set_option maxRecDepth 100000 in
set_option maxHeartbeats 3200000 in
theorem undo_yes (h : MNet w G X mv ms ss ls n) {m : Nat} (hm : m ≤ n) (hss : ss.length ≤ 4398046510976) (A T : Nat → List Int) (hl : ∀ i, i < ss.length → ls i = A i ++ T i)
    (hA : ∀ i, i < ss.length → ∀ x ∈ A i, x < (m : Int)) (hT : ∀ i, i < ss.length → ∀ x ∈ T i, (m : Int) ≤ x) (hb : ∀ i, i < ss.length → (ls i).length ≤ 17592186044400) :
    Calls Try.prog 46 #[.pointer (some ⟨X, 0, none⟩), .int .i64 (m : Int)] w fun e w' => e = .returned (.int .i64 0) ∧ MNet w' G X mv ms ss A m ∧ Turned G w w' := by
  have c1 := h.c1
  have f1 := h.f1
  have h0 := Lib.hid (h.count m)
  have ht := Lib.hid (Turned.of_set (w := w) (G := G) (a := ⟨X, 1, none⟩) (u := .int .i64 (m : Int)) (show 2 ≤ G X by rw [h.tag]; decide))
  obtain ⟨a, c, rfl, hg⟩ := h.form
  have HG := Lib.hid hg
  have HL := hl
  have HA := Lib.hid hA
  have HT := Lib.hid hT
  have HB := Lib.hid hb
  have c0 := h0.out.c0
  clear h hg hA hT hb
  have hd1 : decide (n < m) = false := decide_eq_false (by omega)
  have hd2 : decide ((m : Int) < 0) = false := decide_eq_false (by omega)
  go_enter Try.func46, Try.ntmps46
  go_wp2
  generalize w.setCell ⟨X, 1, none⟩ (.int .i64 (m : Int)) = w0 at h0 ht c0 ⊢
  clear c1 f1 c0
  go_loopw [28] (fun k wr => ∃ i : Nat, k = .int .i64 (i : Int) ∧ i ≤ ss.length ∧ Hid (MNet wr G X (.slice a ss.length c) ms ss (undoLs A ls i) m) ∧ Hid (Turned G w wr)) (fun k _ => ss.length - (intOf k).toNat)
  case atStart => exact ⟨0, rfl, Nat.zero_le _, (h0.out.congr (fun i _ => by simp [undoLs])), ht.out⟩
  case round =>
    obtain ⟨i, rfl, hil, hM, hR⟩ := hrel
    by_cases h1 : i < ss.length
    · obtain ⟨g, rfl⟩ := HG.out (fun e => by rw [e] at h1; simp at h1)
      obtain ⟨b, hb⟩ : ∃ b, ms[i]? = some b := ⟨ms[i]'(by rw [hM.out.mlen]; exact h1), List.getElem?_eq_getElem _⟩
      obtain ⟨s, hs⟩ : ∃ s, ss[i]? = some s := ⟨ss[i]'h1, List.getElem?_eq_getElem h1⟩
      have k1 := hM.out.ptr hb
      have HSI := Lib.hid hs
      have HBI := Lib.hid hb
      have hsplit := HL i h1
      clear hs hb
      go_wp2
      go_loopw [] (fun wr => ∃ r : Nat, r ≤ (T i).length ∧ Hid (MNet wr G X (.slice (some ⟨g, 0, none⟩) ss.length c) ms ss (undoIn A T ls i r) m) ∧ Hid (Turned G w wr)) (fun wr => lenAt wr b)
      case atStart =>
        refine ⟨(T i).length, Nat.le_refl _, hM.out.congr (fun j hj => ?_), hR.out⟩
        unfold undoIn undoLs
        split
        · rfl
        · split
          · rename_i e; subst e; rw [List.take_length, hsplit]
          · rfl
      case round =>
        obtain ⟨r, hr, hM2, hR2⟩ := hrel
        have hmem := hM2.out.mem i b s HSI.out HBI.out
        rw [show undoIn A T ls i r i = A i ++ (T i).take r by simp [undoIn]] at hmem
        obtain ⟨l, hl⟩ : ∃ l, l = A i ++ (T i).take r := ⟨_, rfl⟩
        rw [← hl] at hmem
        obtain ⟨fv, rv, _, r1, _, f1, FN, ro, rt, rb⟩ := hmem.parts
        have RO := Lib.hid ro
        have RB := Lib.hid rb
        have RT := Lib.hid rt
        have HLL := Lib.hid hl
        clear ro rb rt hl hmem
        have hexit : A i ++ (T i).take r = A i → MNet wr G X (.slice (some ⟨g, 0, none⟩) ss.length c) ms ss (undoLs A ls (i + 1)) m := fun e => hM2.out.congr (fun j hj => by
          unfold undoIn undoLs
          split
          · rw [if_pos (by omega)]
          · split
            · rename_i e2; subst e2; rw [if_pos (by omega), e]
            · rw [if_neg (by omega)])
        have HX := Lib.hid hexit
        clear hexit
        by_cases h0 : l.length = 0
        · obtain ⟨ar, cr, rfl, _⟩ := RO.out.at
          have HN := Lib.hid (HX.out (by
            have : l = [] := List.length_eq_zero_iff.1 h0
            rw [HLL.out] at this
            have h2 := List.append_eq_nil_iff.1 this
            rw [h2.1, h2.2]; rfl))
          rw [h0] at r1
          go_wp2_with fail
          go_quiet (fail)
          generalize hW : wr.drewN _ = w2
          have H2 := Lib.hid (show MNet w2 G X (.slice (some ⟨g, 0, none⟩) ss.length c) ms ss (undoLs A ls (i + 1)) m by rw [← hW]; exact HN.out.same (by simp))
          have T2 := Lib.hid (show Turned G w w2 by rw [← hW]; exact hR2.out.same rfl rfl rfl rfl)
          clear hW r1 f1
          go_wp2
          go_roundw
          case rel => exact ⟨i + 1, by go_num, by omega, H2.out, T2.out⟩
          case measure => simp only [intOf]; omega
        · obtain ⟨K, hK⟩ : ∃ K, l.length = K + 1 := ⟨l.length - 1, by omega⟩
          obtain ⟨gr, cr, rfl⟩ := Joins.ownsRow_form RO.out (by omega)
          obtain ⟨x, hx⟩ : ∃ x, x = at' l K := ⟨_, rfl⟩
          have cx : wr.cell? ⟨gr, K, none⟩ = some (.int .i64 x) := by
            have := OwnInts.cell RO.out (j := K) (by omega)
            rw [Nat.zero_add] at this
            rw [this, hx]
          have hlb : l.length ≤ 17592186044400 := by
            rw [HLL.out]
            have := HB.out i h1
            rw [hsplit, List.length_append] at this
            rw [List.length_append, List.length_take]; omega
          have hcr : (K : Int) ≤ (cr : Int) := by
            rcases RO.out.2 with ⟨e, _⟩ | ⟨g', cap', cur, e, _, _, hle, _⟩
            · cases e
            · simp only [Value.slice.injEq] at e
              obtain ⟨_, _, rfl⟩ := e
              omega
          rw [hK] at r1 hlb
          have HXX := Lib.hid hx
          have HKK := Lib.hid hK
          clear hx hK h0
          by_cases h2 : x < (m : Int)
          · have HN := Lib.hid (HX.out (by
              match r with
              | 0 => simp
              | r + 1 =>
                exfalso
                have e1 : l.length = (A i).length + (r + 1) := by rw [HLL.out, List.length_append, List.length_take]; omega
                have e2 : K = (A i).length + r := by have := HKK.out; omega
                have e3 : x = at' (T i) r := by rw [HXX.out, HLL.out, e2]; exact at_append_take
                have := HT.out i h1 _ (at_mem (show r < (T i).length by omega))
                omega))
            have hd : decide ((m : Int) ≤ x) = false := decide_eq_false (by omega)
            clear HX
            go_wp2_with fail
            go_quiet (fail)
            generalize hW : wr.drewN _ = w2
            have H2 := Lib.hid (show MNet w2 G X (.slice (some ⟨g, 0, none⟩) ss.length c) ms ss (undoLs A ls (i + 1)) m by rw [← hW]; exact HN.out.same (by simp))
            have T2 := Lib.hid (show Turned G w w2 by rw [← hW]; exact hR2.out.same rfl rfl rfl rfl)
            clear hW r1 f1 cx
            go_wp2
            go_roundw
            case rel => exact ⟨i + 1, by go_num, by omega, H2.out, T2.out⟩
            case measure => simp only [intOf]; omega
          · have hd : decide ((m : Int) ≤ x) = true := decide_eq_true (by omega)
            go_wp2_with fail
            go_quiet (fail)
            generalize hW : wr.drewN _ = w2
            have H2 := Lib.hid (show MNet w2 G X (.slice (some ⟨g, 0, none⟩) ss.length c) ms ss (undoIn A T ls i r) m by rw [← hW]; exact hM2.out.same (by simp))
            have T2 := Lib.hid (show Turned G w w2 by rw [← hW]; exact hR2.out.same rfl rfl rfl rfl)
            have HH := Lib.hid (show w2.heap = wr.heap by rw [← hW]; rfl)
            have HW2 := Lib.hid (pop_put H2.out HSI.out HBI.out (by rw [HH.out]; exact RB.out) (FN.keep (G' := G) (fun k hk => ⟨by rw [HH.out], hk⟩)) (show OwnInts w2 0 _ l from row_keep RO.out (fun k _ => by rw [HH.out])) RT.out HLL.out HXX.out HKK.out h2 (HA.out i h1) hr)
            have L1 := Lib.hid (show lenAt wr b = K + 1 by unfold lenAt; rw [r1])
            have L2 := Lib.hid (fun (u : World) (e : u.heap = w2.heap) => (show lenAt (u.setCell ⟨b, 1, none⟩ (.slice (some ⟨gr, 0, none⟩) K cr)) b = K from lenAt_set (by rw [e, HH.out]; exact RB.out)))
            have T3 := Lib.hid (fun (u : World) (hu : Turned G w u) => (show Turned G w (u.setCell ⟨b, 1, none⟩ (.slice (some ⟨gr, 0, none⟩) K cr)) from hu.trans (G' := G) (Turned.of_set (a := ⟨b, 1, none⟩) (show 2 ≤ G b by rw [(H2.out.mem i b s HSI.out HBI.out).1]; omega)) (fun _ _ => rfl)))
            have r2 : w2.cell? ⟨b, 1, none⟩ = some (.slice (some ⟨gr, 0, none⟩) (K + 1) cr) := by rw [← hW]; exact r1
            have f2 : w2.frozen? ⟨b, 1, none⟩ = false := by rw [← hW]; exact f1
            clear hW r1 f1 cx
            go_wp2_with fail
            go_region
            go_roundw
            case rel =>
              obtain ⟨r', hr', hN⟩ := HW2.out
              (repeat apply Exists.intro)
              exact ⟨⟨r', hr', (hN w2 rfl).same rfl, (T3.out w2 T2.out).same rfl rfl rfl rfl⟩, rfl⟩
            case measure =>
              rw [L1.out]
              exact Nat.lt_of_le_of_lt (Nat.le_of_eq (L2.out w2 rfl)) (Nat.lt_succ_self _)
    · have e : i = ss.length := by omega
      subst e
      go_wp2
      go_ret
      exact ⟨rfl, hM.out.congr (fun j hj => by simp [undoLs, hj]), hR.out⟩

end
end Go.Proofs.Ytlandkindbmbfaa
