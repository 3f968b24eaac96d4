/-
  The walk of edictlaw10.step: both nets answer alike, and hold the same rows behind it. Conditions: the numbers are ints, the lists within the form's own reach.
-/
import Derived.Test.YtlandkindbmbfaaW26
namespace Go.Proofs.Ytlandkindbmbfaa
open Go.RowKit Plain
attribute [local go_sem ↓] Go.wp_at_zero Go.wp_at_succ

def Short (rs : List Shp) : Prop := ∀ r, r ∈ rs → r.cells.length ≤ 17592186044400
theorem Short.snoc {rs : List Shp} {r : Shp} (h : Short rs) (hr : r.cells.length ≤ 17592186044400) : Short (rs ++ [r]) := fun x hx => by
  rcases List.mem_append.1 hx with h1 | h1
  · exact h x h1
  · rw [List.mem_singleton] at h1; subst h1; exact hr
theorem Short.take {rs : List Shp} (h : Short rs) (m : Nat) : Short (rs.take m) := fun x hx => h x (List.mem_of_mem_take hx)

structure OpBox (w : World) (b : Nat) (kind pred : Int) (u : Value) (nn : Int) : Prop where
  c0 : w.cell? ⟨b, 0, none⟩ = some (.int .i64 kind)
  c1 : w.cell? ⟨b, 1, none⟩ = some (.int .i64 pred)
  c2 : w.cell? ⟨b, 2, none⟩ = some u
  c3 : w.cell? ⟨b, 3, none⟩ = some (.int .i64 nn)
theorem OpBox.made (w : World) (kind pred : Int) (u : Value) (nn : Int) : OpBox (w.alloc (.cells #[.int .i64 kind, .int .i64 pred, u, .int .i64 nn] 66)) w.heap.size kind pred u nn :=
  ⟨by simp, by simp, by simp, by simp⟩
theorem OpBox.keep {w w' : World} {b : Nat} {kind pred : Int} {u : Value} {nn : Int} (h : OpBox w b kind pred u nn) (hb : w'.heap[b]? = w.heap[b]?) : OpBox w' b kind pred u nn :=
  ⟨(World.cell?_of_block hb).trans h.c0, (World.cell?_of_block hb).trans h.c1, (World.cell?_of_block hb).trans h.c2, (World.cell?_of_block hb).trans h.c3⟩

def StepIs (wB : World) (X : Nat) (mv : Value) (ms : List Nat) (ss : List Shp) (X2 : Nat) (sv : Value) (rs : List Shp) (e : Ending) (w' : World) : Prop :=
  e = .returned (.bool true) ∧ ∃ rs' G' rv', Both wB X mv ms ss X2 sv rs' rs' w' G' rv' ∧ rs'.length ≤ rs.length + 1 ∧ Short rs'

section
variable {wB w : World} {G : Nat → Nat} {X X2 : Nat} {mv sv rv : Value} {ms : List Nat} {ss rs : List Shp}

theorem Both.len (h : Both wB X mv ms ss X2 sv rs rs w G rv) : Calls Try.prog 37 #[.pointer (some ⟨X, 0, none⟩)] w fun e w' => e = .returned (.int .i64 (rs.length : Int)) ∧ w = w' := len_any h.net

set_option maxRecDepth 100000 in
set_option maxHeartbeats 6400000 in
theorem step_add (h : Both wB X mv ms ss X2 sv rs rs w G rv) (hsh : OwnShps wB (X2 + 1) sv ss) (hok : Okays ss) (hva : ∀ s, s ∈ ss → validB s = true) (hss : ss.length ≤ 4398046510976) (hn : rs.length < 4398046510976) (hst : Short rs) (pred : Int) (row : List Int) (u : Value) (nn : Int)
    (hu : IntsAt w w.heap.size u row) (hny : Nilly u) (hub : row ≠ [] → ∀ k, u.ownBlock = some k → k < wB.heap.size ∧ k ≠ X2) (hr : row.length ≤ 17592186044400) :
    Calls Try.prog 36 #[.pointer (some ⟨X, 0, none⟩), .pointer (some ⟨X2, 0, none⟩), .agg #[.int .i64 1, .int .i64 pred, u, .int .i64 nn]] w (StepIs wB X mv ms ss X2 sv rs) := by
  obtain ⟨au, cu, rfl, _⟩ := id hu
  obtain ⟨w0, hw0⟩ : ∃ w0, w0 = w.alloc (.cells #[.int .i64 1, .int .i64 pred, .slice au row.length cu, .int .i64 nn] 66) := ⟨_, rfl⟩
  have hb0 : Below w.heap.size w w0 := by rw [hw0]; exact up_alloc _ _
  have HB0 := Lib.hid (h.up hb0)
  have HX := Lib.hid (show OpBox w0 w.heap.size 1 pred (.slice au row.length cu) nn by rw [hw0]; exact OpBox.made _ _ _ _ _)
  have hbl : w.heap.size < w0.heap.size := by rw [hw0]; simp
  have HU0 := Lib.hid ((hu.below hb0).mono hb0.size)
  have HST := Lib.hid hst
  have hBw := h.exc.size
  by_cases hbad : pred < 0 ∨ negB row = true
  · have HR := Lib.hid (radd_no X2 pred row _ w0 HU0.out (by omega) hbad)
    have HAN := Lib.hid (fun (w' : World) (hb : Below w0.heap.size w0 w') => add_no (X := X) pred row (.slice au row.length cu) w' ((HU0.out.below hb).mono hb.size) (by omega) hbad)
    have HIN := Lib.hid (fun (w' : World) (v v' : Value) (h1 : OwnInts w' 0 v []) (h2 : OwnInts w' 0 v' []) => ints_any [] [] v v' w' h1.at h2.at (by simp) (by simp))
    have b0 := HX.out.c0
    have b1 := HX.out.c1
    have b2 := HX.out.c2
    clear h hsh hok hva hub hny hu hbad hst hb0
    go_enter Try.func36, Try.ntmps36
    go_wp2_with fail
    rw [← hw0]
    clear hw0
    refine HR.out.mono ?_
    rintro e w1 ⟨v1, rfl, hv1, hb1⟩
    obtain ⟨a1, n1, c1, rfl⟩ := hv1.form
    have X1 := Lib.hid (HX.out.keep (hb1.block _ hbl))
    have V1 := Lib.hid hv1
    have B1 := Lib.hid hb1
    have b0 := X1.out.c0
    have b1 := X1.out.c1
    have b2 := X1.out.c2
    clear hv1 hb1
    go_wp2_with fail
    refine (HAN.out w1 B1.out).mono ?_
    rintro e w2 ⟨v2, rfl, hv2, hb2⟩
    obtain ⟨a2, n2, c2, rfl⟩ := hv2.form
    have V2 := Lib.hid hv2
    have V12 := Lib.hid (V1.out.up hb2)
    have B2 := Lib.hid (B1.out.trans (hb2.mono B1.out.size))
    clear hv2 hb2
    go_wp2_with fail
    refine (HIN.out w2 _ _ (V2.out.mono (Nat.zero_le _)) (V12.out.mono (Nat.zero_le _))).mono ?_
    rintro e w3 ⟨rfl, hb3⟩
    have HF := Lib.hid (HB0.out.up (B2.out.trans (hb3.mono B2.out.size)))
    clear hb3
    go_wp2
    go_ret
    exact ⟨ret_bool (by simp), rs, G, rv, HF.out, by omega, HST.out⟩
  · have hp : 0 ≤ pred := by
      rcases Int.lt_or_le pred 0 with h1 | h1
      · exact absurd (Or.inl h1) hbad
      · exact h1
    have hng : negB row = false := by
      cases hq : negB row with
      | false => rfl
      | true => exact absurd (Or.inr hq) hbad
    have hrlt : ∀ k, rv.ownBlock = some k → wB.heap.size ≤ k ∧ k < w.heap.size := by
      obtain ⟨vs, _, ho, _⟩ := h.rows
      exact fun k hk => World.ownsRow.lt ho k hk
    have hub2 : row ≠ [] → ∀ k, (Value.slice au row.length cu).ownBlock = some k → k ≠ X2 ∧ rv.ownBlock ≠ some k := fun hne k hk => ⟨(hub hne k hk).2, fun e => by have := hrlt k e; have := (hub hne k hk).1; omega⟩
    have HR := Lib.hid (radd_yes HB0.out hsh hok hss hn pred row _ HU0.out hny hub2 hr hp hng)
    have HUB := Lib.hid hub
    have HUB2 := Lib.hid hub2
    have HOK := Lib.hid hok
    have HVA := Lib.hid hva
    have hX2b : w.heap.size ≠ X2 := by have := h.lt2; omega
    have hrvb : rv.ownBlock ≠ some w.heap.size := fun e => by have := hrlt _ e; omega
    have HXB := Lib.hid (And.intro hX2b hrvb)
    have HNG := Lib.hid hng
    have htl := took_len ss ⟨pred, row⟩
    have b0 := HX.out.c0
    have b1 := HX.out.c1
    have b2 := HX.out.c2
    clear h hsh hok hva hub hub2 hny hu hbad hst hb0 hng hrlt hX2b hrvb
    go_enter Try.func36, Try.ntmps36
    go_wp2_with fail
    rw [← hw0]
    clear hw0
    refine HR.out.mono ?_
    rintro e w1 ⟨v1, rv1, rfl, hB1, hc1, hv1⟩
    obtain ⟨a1, n1, c1, rfl⟩ := hv1.form
    have X1 := Lib.hid (HX.out.keep (hc1.block _ hbl HXB.out.1 HXB.out.2))
    have HB1 := Lib.hid hB1
    have HC1 := Lib.hid hc1
    have V1 := Lib.hid hv1
    have U1 := Lib.hid (HU0.out.chg hc1 HUB2.out)
    have b0 := X1.out.c0
    have b1 := X1.out.c1
    have b2 := X1.out.c2
    have HAD := Lib.hid (add_yes hB1.net hss HOK.out HVA.out (by omega) (fun i _ => lsOf_len ss rs i) pred row (.slice au row.length cu) U1.out (fun hne k hk => by rw [hB1.zero k (HUB.out hne k hk).1]; decide) (by omega) hp HNG.out)
    clear hB1 hc1 hv1
    go_wp2_with fail
    refine HAD.out.mono ?_
    rintro e w2 ⟨v2, G2, rfl, hA⟩
    have hown := hA.own
    rw [List.take_length] at hown
    obtain ⟨a2, n2, c2, rfl⟩ := OwnInts.form hown
    have HB2 : Hid (Both wB X mv ms ss X2 sv (rs ++ [⟨pred, row⟩]) (rs ++ [⟨pred, row⟩]) w2 G2 rv1) := by
      refine HB1.out.turn ?_ hA.tags hA.turned
      rw [List.length_append, List.length_singleton]
      exact hA.net.congr (fun j hj => by rw [if_pos hj]; exact lsOf_add ss rs ⟨pred, row⟩ j)
    have V2 : Hid (OwnInts w2 0 (.slice a2 n2 c2) (took ss ⟨pred, row⟩)) := hown.mono (Nat.zero_le _)
    have V12 : Hid (OwnInts w2 0 (.slice a1 n1 c1) (took ss ⟨pred, row⟩)) := (V1.out.turned hA.turned (fun k hk => by rw [HB0.out.net.zero k hk]; decide)).mono (Nat.zero_le _)
    have HIN : Hid (Calls Try.prog 21 #[.slice a2 n2 c2, .slice a1 n1 c1] w2 (BoolIs w2 true)) := by
      have := ints_any _ _ _ _ w2 V2.out.at V12.out.at (show (took ss ⟨pred, row⟩).length ≤ 35184372088832 by omega) (show (took ss ⟨pred, row⟩).length ≤ 35184372088832 by omega)
      rw [decide_eq_true rfl] at this
      exact this
    clear hA hown
    go_wp2_with fail
    refine HIN.out.mono ?_
    rintro e w3 ⟨rfl, hb3⟩
    have HF := Lib.hid (HB2.out.up hb3)
    clear hb3
    go_wp2
    go_ret
    exact ⟨ret_bool (by simp), _, _, _, HF.out, by simp, HST.out.snoc hr⟩
end

end Go.Proofs.Ytlandkindbmbfaa
