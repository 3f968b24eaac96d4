/-
  The walk of edictlaw10.step, the other kinds of calls: both nets answer alike, and hold the same rows behind it. Conditions: the numbers are ints, the lists within the form's own reach.
-/
import Derived.Test.YtlandkindbmbfaaW27
namespace Go.Proofs.Ytlandkindbmbfaa
open Go.RowKit Plain
attribute [local go_sem ↓] Go.wp_at_zero Go.wp_at_succ

section
variable {wB w : World} {G : Nat → Nat} {X X2 : Nat} {mv sv rv : Value} {ms : List Nat} {ss rs : List Shp}

set_option maxRecDepth 100000 in
set_option maxHeartbeats 6400000 in
theorem step_rows (h : Both wB X mv ms ss X2 sv rs rs w G rv) (hsh : OwnShps wB (X2 + 1) sv ss) (hok : Okays ss) (hn : rs.length ≤ 4398046510976) (hst : Short rs) (pred : Int) (u : Value) (nn : Int) :
    Calls Try.prog 36 #[.pointer (some ⟨X, 0, none⟩), .pointer (some ⟨X2, 0, none⟩), .agg #[.int .i64 2, .int .i64 pred, u, .int .i64 nn]] w fun e w' => e = .returned (.bool true) ∧ Both wB X mv ms ss X2 sv rs rs w' G rv := by
  obtain ⟨w0, hw0⟩ : ∃ w0, w0 = w.alloc (.cells #[.int .i64 2, .int .i64 pred, u, .int .i64 nn] 66) := ⟨_, rfl⟩
  have hb0 : Below w.heap.size w w0 := by rw [hw0]; exact up_alloc _ _
  have HB0 := Lib.hid (h.up hb0)
  have HX := Lib.hid (show OpBox w0 w.heap.size 2 pred u nn by rw [hw0]; exact OpBox.made _ _ _ _ _)
  have hbl : w.heap.size < w0.heap.size := by rw [hw0]; simp
  obtain ⟨l, x, hl, HA, HR⟩ : ∃ (l : List Int) (x : Int), l.length ≤ 4398046510976 ∧ Hid (Calls Try.prog 48 #[.pointer (some ⟨X, 0, none⟩), .int .i64 nn] w0 (TupIs l x w0)) ∧ Hid (∀ w1, Below w0.heap.size w0 w1 → Calls Try.prog 56 #[.pointer (some ⟨X2, 0, none⟩), .int .i64 nn] w1 (TupIs l x w1)) := by
    by_cases hm : 0 ≤ nn ∧ nn < (ss.length : Int)
    · obtain ⟨m, rfl⟩ := Int.eq_ofNat_of_zero_le hm.1
      have hml : m < ss.length := by omega
      have hs : ss[m]? = some ss[m] := List.getElem?_eq_getElem hml
      refine ⟨nums ss[m] rs, 0, Nat.le_trans (idx_length _) hn, ?_, fun w1 hb => ?_⟩
      · exact rows_yes HB0.out.net hml (lsOf_some hs) (Nat.le_trans (idx_length _) (by omega))
      · exact rrows_yes (HB0.out.up hb) hsh hok hn hst hs
    · refine ⟨[], 2, by simp, rows_no HB0.out.net nn (decide_eq_false hm), fun w1 hb => rrows_no (HB0.out.up hb) hsh nn ?_⟩
      rcases Int.lt_or_le nn 0 with h1 | h1
      · exact .inl h1
      · exact .inr (by rcases Int.lt_or_le nn ss.length with h2 | h2
                       · exact absurd ⟨h1, h2⟩ hm
                       · exact h2)
  have b0 := HX.out.c0
  have b3 := HX.out.c3
  have HIN : Hid (∀ (w' : World) (v v' : Value), OwnInts w' 0 v l → OwnInts w' 0 v' l → Calls Try.prog 21 #[v, v'] w' (BoolIs w' true)) := fun w' v v' h1 h2 => by
    have := ints_any l l v v' w' h1.at h2.at (by omega) (by omega)
    rw [decide_eq_true rfl] at this
    exact this
  clear h hsh hok hst hb0
  go_enter Try.func36, Try.ntmps36
  go_wp2_with fail
  rw [← hw0]
  clear hw0
  refine HA.out.mono ?_
  rintro e w1 ⟨v1, rfl, hv1, hb1⟩
  obtain ⟨a1, n1, c1, rfl⟩ := hv1.form
  have X1 := Lib.hid (HX.out.keep (hb1.block _ hbl))
  have V1 := Lib.hid hv1
  have B1 := Lib.hid hb1
  have b0 := X1.out.c0
  have b3 := X1.out.c3
  clear hv1 hb1
  go_wp2_with fail
  refine (HR.out w1 B1.out).mono ?_
  rintro e w2 ⟨v2, rfl, hv2, hb2⟩
  obtain ⟨a2, n2, c2, rfl⟩ := hv2.form
  have V2 := Lib.hid hv2
  have V12 := Lib.hid (V1.out.up hb2)
  have B2 := Lib.hid (B1.out.trans (hb2.mono B1.out.size))
  clear hv2 hb2
  have hxx : (x == x) = true := by simp
  go_wp2_with fail
  refine (HIN.out w2 _ _ (V12.out.mono (Nat.zero_le _)) (V2.out.mono (Nat.zero_le _))).mono ?_
  rintro e w3 ⟨rfl, hb3⟩
  have HF := Lib.hid (HB0.out.up (B2.out.trans (hb3.mono B2.out.size)))
  clear hb3
  go_wp2
  go_ret
  exact ⟨ret_bool (by simp), HF.out⟩

set_option maxRecDepth 100000 in
set_option maxHeartbeats 6400000 in
theorem step_len (h : Both wB X mv ms ss X2 sv rs rs w G rv) (hst : Short rs) (pred : Int) (u : Value) (nn : Int) :
    Calls Try.prog 36 #[.pointer (some ⟨X, 0, none⟩), .pointer (some ⟨X2, 0, none⟩), .agg #[.int .i64 3, .int .i64 pred, u, .int .i64 nn]] w (StepIs wB X mv ms ss X2 sv rs) := by
  obtain ⟨w0, hw0⟩ : ∃ w0, w0 = w.alloc (.cells #[.int .i64 3, .int .i64 pred, u, .int .i64 nn] 66) := ⟨_, rfl⟩
  have hb0 : Below w.heap.size w w0 := by rw [hw0]; exact up_alloc _ _
  have HB0 := Lib.hid (h.up hb0)
  have HST := Lib.hid hst
  have HA := Lib.hid (HB0.out.len)
  have HR := Lib.hid (rlen_any HB0.out)
  clear h hst hb0
  go_enter Try.func36, Try.ntmps36
  go_wp2_with fail
  rw [← hw0]
  clear hw0
  refine HA.out.mono ?_
  rintro e w1 ⟨rfl, rfl⟩
  go_wp2_with fail
  refine HR.out.mono ?_
  rintro e w1 ⟨rfl, rfl⟩
  go_wp2
  go_ret
  exact ⟨ret_bool (by simp), rs, G, rv, HB0.out, by omega, HST.out⟩

set_option maxRecDepth 100000 in
set_option maxHeartbeats 6400000 in
theorem step_none (h : Both wB X mv ms ss X2 sv rs rs w G rv) (hst : Short rs) (kind pred : Int) (u : Value) (nn : Int) (h1 : kind ≠ 1) (h2 : kind ≠ 2) (h3 : kind ≠ 3) (h4 : kind ≠ 4) :
    Calls Try.prog 36 #[.pointer (some ⟨X, 0, none⟩), .pointer (some ⟨X2, 0, none⟩), .agg #[.int .i64 kind, .int .i64 pred, u, .int .i64 nn]] w (StepIs wB X mv ms ss X2 sv rs) := by
  have HF := Lib.hid (h.alloc (.cells #[.int .i64 kind, .int .i64 pred, u, .int .i64 nn] 66))
  have HST := Lib.hid hst
  have e1 : (kind == 1) = false := by simpa using h1
  have e2 : (kind == 2) = false := by simpa using h2
  have e3 : (kind == 3) = false := by simpa using h3
  have e4 : (kind == 4) = false := by simpa using h4
  clear h hst
  go_enter Try.func36, Try.ntmps36
  go_wp2
  go_ret
  exact ⟨rfl, rs, G, rv, HF.out, by omega, HST.out⟩

set_option maxRecDepth 100000 in
set_option maxHeartbeats 6400000 in
theorem step_undo (h : Both wB X mv ms ss X2 sv rs rs w G rv) (hss : ss.length ≤ 4398046510976) (hn : rs.length ≤ 4398046510976) (hst : Short rs) (pred : Int) (u : Value) (nn : Int) :
    Calls Try.prog 36 #[.pointer (some ⟨X, 0, none⟩), .pointer (some ⟨X2, 0, none⟩), .agg #[.int .i64 4, .int .i64 pred, u, .int .i64 nn]] w (StepIs wB X mv ms ss X2 sv rs) := by
  obtain ⟨w0, hw0⟩ : ∃ w0, w0 = w.alloc (.cells #[.int .i64 4, .int .i64 pred, u, .int .i64 nn] 66) := ⟨_, rfl⟩
  have hb0 : Below w.heap.size w w0 := by rw [hw0]; exact up_alloc _ _
  have HB0 := Lib.hid (h.up hb0)
  have HX := Lib.hid (show OpBox w0 w.heap.size 4 pred u nn by rw [hw0]; exact OpBox.made _ _ _ _ _)
  have hbl : w.heap.size < w0.heap.size := by rw [hw0]; simp
  have HST := Lib.hid hst
  have hBw := h.exc.size
  have b0 := HX.out.c0
  have b3 := HX.out.c3
  by_cases hm : 0 ≤ nn ∧ nn ≤ (rs.length : Int)
  · obtain ⟨m, hnm⟩ := Int.eq_ofNat_of_zero_le hm.1
    have hml : m ≤ rs.length := by omega
    have hX2b : w.heap.size ≠ X2 := by have := h.lt2; omega
    have hrvb : rv.ownBlock ≠ some w.heap.size := by
      obtain ⟨vs, _, ho, _⟩ := h.rows
      exact fun e => by have := World.ownsRow.lt ho _ e; omega
    have hGb : G w.heap.size = 0 := h.net.zero _ (Nat.le_refl _)
    have HXB := Lib.hid (And.intro hX2b (And.intro hrvb hGb))
    have HUN : Hid (Calls Try.prog 46 #[.pointer (some ⟨X, 0, none⟩), .int .i64 nn] w0.drew fun e w' => e = .returned (.int .i64 0) ∧ MNet w' G X mv ms ss (lsOf ss (rs.take m)) m ∧ Turned G w0.drew w') := by
      rw [hnm]
      refine undo_yes HB0.out.drew.net hml hss (lsOf ss (rs.take m)) (fun j => match ss[j]? with | some s => idxFrom (fitR s) m (rs.drop m) | none => []) (fun i hi => ?_) (fun i hi x hx => ?_) (fun i hi x hx => ?_) (fun i _ => Nat.le_trans (lsOf_len ss rs i) (by omega))
      · have hs : ss[i]? = some ss[i] := List.getElem?_eq_getElem hi
        rw [lsOf_some hs, lsOf_some hs]
        simp only [hs]
        exact nums_cut _ _ hml
      · have hs : ss[i]? = some ss[i] := List.getElem?_eq_getElem hi
        rw [lsOf_some hs] at hx
        have := idx_bounds (f := fitR ss[i]) (rs.take m) x hx
        rw [List.length_take, Nat.min_eq_left hml] at this
        exact this.2
      · have hs : ss[i]? = some ss[i] := List.getElem?_eq_getElem hi
        simp only [hs] at hx
        exact (idxFrom_bounds (f := fitR ss[i]) (rs.drop m) m x hx).1
    have HRU : Hid (∀ w1, Both wB X mv ms ss X2 sv (rs.take m) rs w1 G rv → Calls Try.prog 57 #[.pointer (some ⟨X2, 0, none⟩), .int .i64 nn] w1 (RUndoIs wB X mv ms ss X2 sv (rs.take m) rs w1 G rv m)) := fun w1 hb => by
      rw [hnm]; exact rundo_yes hb hn hml
    have HML := Lib.hid hml
    clear h hst hb0 hm hnm hX2b hrvb hGb hml
    go_enter Try.func36, Try.ntmps36
    go_wp2_with fail
    rw [← hw0]
    clear hw0
    go_region_held3 (fun w' => w'.cell? ⟨w.heap.size, 3, none⟩ = some (.int .i64 nn))
      (first | exact b3 | exact m3 | exact q3)
      (first
        | (go_at_call 46; refine HUN.out.mono ?_; rintro e w1 ⟨rfl, hnet, hT⟩; have hB1 : Both wB X mv ms ss X2 sv (rs.take m) rs w1 G rv := HB0.out.drew.turn (by rw [List.length_take, Nat.min_eq_left HML.out]; exact hnet) (fun _ _ => rfl) hT; have m3 := (HX.out.keep (hT.block w.heap.size hbl (by rw [HXB.out.2.2]; decide))).c3; have HB1 := Lib.hid hB1; have hbl1 : w.heap.size < w1.heap.size := Nat.lt_of_lt_of_le hbl hT.size; clear hB1 hnet hT)
        | (go_at_call 57; refine (HRU.out _ (by exact HB1.out)).mono ?_; rintro e w2 ⟨rv2, rfl, hB2, hC2⟩; have m3' := (World.cell?_of_block (hC2.block w.heap.size hbl1 HXB.out.1 HXB.out.2.1)).trans m3; have q3 := m3'; have HB2 := Lib.hid hB2; clear hB2 hC2))
    go_wp2
    go_ret
    exact ⟨ret_bool (by simp), _, _, _, HB2.out, by rw [List.length_take]; omega, HST.out.take m⟩
  · have hm2 : nn < 0 ∨ (rs.length : Int) < nn := by
      rcases Int.lt_or_le nn 0 with h1 | h1
      · exact .inl h1
      · exact .inr (by rcases Int.lt_or_le (rs.length : Int) nn with h2 | h2
                       · exact h2
                       · exact absurd ⟨h1, h2⟩ hm)
    have HUN := Lib.hid (undo_no HB0.out.drew.net nn hm2)
    have HRU := Lib.hid (rundo_no HB0.out.drew nn hm2)
    have HFD := Lib.hid HB0.out.drew
    clear h hst hb0 hm hm2
    go_enter Try.func36, Try.ntmps36
    go_wp2_with fail
    rw [← hw0]
    clear hw0
    go_region_held3 (fun w' => w'.cell? ⟨w.heap.size, 3, none⟩ = some (.int .i64 nn))
      (first | exact b3)
      (first
        | (go_at_call 46; refine HUN.out.mono ?_; rintro e w1 ⟨rfl, rfl⟩)
        | (go_at_call 57; refine HRU.out.mono ?_; rintro e w2 ⟨rfl, rfl⟩))
    go_wp2
    go_ret
    exact ⟨ret_bool (by simp), _, _, _, HFD.out, by omega, HST.out⟩

theorem step_any (h : Both wB X mv ms ss X2 sv rs rs w G rv) (hsh : OwnShps wB (X2 + 1) sv ss) (hok : Okays ss) (hva : ∀ s, s ∈ ss → validB s = true) (hss : ss.length ≤ 4398046510976) (hn : rs.length < 4398046510976) (hst : Short rs) (kind pred : Int) (row : List Int) (u : Value) (nn : Int)
    (hu : IntsAt w w.heap.size u row) (hny : Nilly u) (hub : row ≠ [] → ∀ k, u.ownBlock = some k → k < wB.heap.size ∧ k ≠ X2) (hr : row.length ≤ 17592186044400) :
    Calls Try.prog 36 #[.pointer (some ⟨X, 0, none⟩), .pointer (some ⟨X2, 0, none⟩), .agg #[.int .i64 kind, .int .i64 pred, u, .int .i64 nn]] w (StepIs wB X mv ms ss X2 sv rs) := by
  by_cases h1 : kind = 1
  · subst h1; exact step_add h hsh hok hva hss hn hst pred row u nn hu hny hub hr
  by_cases h2 : kind = 2
  · subst h2
    refine (step_rows h hsh hok (by omega) hst pred u nn).mono ?_
    rintro e w' ⟨rfl, hb⟩
    exact ⟨rfl, rs, G, rv, hb, by omega, hst⟩
  by_cases h3 : kind = 3
  · subst h3; exact step_len h hst pred u nn
  by_cases h4 : kind = 4
  · subst h4; exact step_undo h hss (by omega) hst pred u nn
  · exact step_none h hst kind pred u nn h1 h2 h3 h4
end

end Go.Proofs.Ytlandkindbmbfaa
