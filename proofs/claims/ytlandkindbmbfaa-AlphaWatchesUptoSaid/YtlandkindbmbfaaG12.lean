/-
  Texts of this seat, one behind the other: W28, L8, O9, V1. Conditions: those that each of them states.
-/
import Derived.Test.YtlandkindbmbfaaG11
import Derived.Test.YtlandkindbmbfaaG3
import Derived.Test.YtlandkindbmbfaaG10
/-
  The walk of edictlaw10.step, the other kinds of calls: both nets answer alike, and hold the same rows behind it. Conditions: the numbers are ints, the lists within the form's own reach.
-/
namespace Go.Proofs.Ytlandkindbmbfaa
open Go.RowKit Plain
attribute [local go_sem ↓] Go.wp_at_zero Go.wp_at_succ

section
variable {wB w : World} {G : Nat → Nat} {X X2 : Nat} {mv sv rv : Value} {ms : List Nat} {ss rs : List Shp}

set_option maxRecDepth 100000 in
set_option maxHeartbeats 6400000 in
theorem step_rows (h : Both wB X mv ms ss X2 sv rs rs w G rv) (hsh : OwnShps wB (X2 + 1) sv ss) (hok : Okays ss) (hn : rs.length ≤ 4398046510976) (hst : Short rs) (pred : Int) (u : Value) (nn : Int) :
    Calls Try.prog 36 #[.pointer (some ⟨X, 0, none⟩), .pointer (some ⟨X2, 0, none⟩), .agg #[.int .i64 2, .int .i64 pred, u, .int .i64 nn]] w fun e w' => e = .returned (.bool true) ∧ Both wB X mv ms ss X2 sv rs rs w' G rv := by
  obtain ⟨w0, hw0⟩ : ∃ w0, w0 = w.alloc (.cells #[.int .i64 2, .int .i64 pred, u, .int .i64 nn] 66) := ⟨_, rfl⟩
  have hb0 : Below w.heap.size w w0 := by rw [hw0]; exact up_alloc _ _
  have HB0 := Lib.hid (h.up hb0)
  have HX := Lib.hid (show OpBox w0 w.heap.size 2 pred u nn by rw [hw0]; exact OpBox.made _ _ _ _ _)
  have hbl : w.heap.size < w0.heap.size := by rw [hw0]; simp
  obtain ⟨l, x, hl, HA, HR⟩ : ∃ (l : List Int) (x : Int), l.length ≤ 4398046510976 ∧ Hid (Calls Try.prog 48 #[.pointer (some ⟨X, 0, none⟩), .int .i64 nn] w0 (TupIs l x w0)) ∧ Hid (∀ w1, Below w0.heap.size w0 w1 → Calls Try.prog 56 #[.pointer (some ⟨X2, 0, none⟩), .int .i64 nn] w1 (TupIs l x w1)) := by
    by_cases hm : 0 ≤ nn ∧ nn < (ss.length : Int)
    · obtain ⟨m, rfl⟩ := Int.eq_ofNat_of_zero_le hm.1
      have hml : m < ss.length := by omega
      have hs : ss[m]? = some ss[m] := List.getElem?_eq_getElem hml
      refine ⟨nums ss[m] rs, 0, Nat.le_trans (idx_length _) hn, ?_, fun w1 hb => ?_⟩
      · exact rows_yes HB0.out.net hml (lsOf_some hs) (Nat.le_trans (idx_length _) (by omega))
      · exact rrows_yes (HB0.out.up hb) hsh hok hn hst hs
    · refine ⟨[], 2, by simp, rows_no HB0.out.net nn (decide_eq_false hm), fun w1 hb => rrows_no (HB0.out.up hb) hsh nn ?_⟩
      rcases Int.lt_or_le nn 0 with h1 | h1
      · exact .inl h1
      · exact .inr (by rcases Int.lt_or_le nn ss.length with h2 | h2
                       · exact absurd ⟨h1, h2⟩ hm
                       · exact h2)
  have b0 := HX.out.c0
  have b3 := HX.out.c3
  have HIN : Hid (∀ (w' : World) (v v' : Value), OwnInts w' 0 v l → OwnInts w' 0 v' l → Calls Try.prog 21 #[v, v'] w' (BoolIs w' true)) := fun w' v v' h1 h2 => by
    have := ints_any l l v v' w' h1.at h2.at (by omega) (by omega)
    rw [decide_eq_true rfl] at this
    exact this
  clear h hsh hok hst hb0
  go_enter Try.func36, Try.ntmps36
  go_wp2_with fail
  rw [← hw0]
  clear hw0
  refine HA.out.mono ?_
  rintro e w1 ⟨v1, rfl, hv1, hb1⟩
  obtain ⟨a1, n1, c1, rfl⟩ := hv1.form
  have X1 := Lib.hid (HX.out.keep (hb1.block _ hbl))
  have V1 := Lib.hid hv1
  have B1 := Lib.hid hb1
  have b0 := X1.out.c0
  have b3 := X1.out.c3
  clear hv1 hb1
  go_wp2_with fail
  refine (HR.out w1 B1.out).mono ?_
  rintro e w2 ⟨v2, rfl, hv2, hb2⟩
  obtain ⟨a2, n2, c2, rfl⟩ := hv2.form
  have V2 := Lib.hid hv2
  have V12 := Lib.hid (V1.out.up hb2)
  have B2 := Lib.hid (B1.out.trans (hb2.mono B1.out.size))
  clear hv2 hb2
  have hxx : (x == x) = true := by simp
  go_wp2_with fail
  refine (HIN.out w2 _ _ (V12.out.mono (Nat.zero_le _)) (V2.out.mono (Nat.zero_le _))).mono ?_
  rintro e w3 ⟨rfl, hb3⟩
  have HF := Lib.hid (HB0.out.up (B2.out.trans (hb3.mono B2.out.size)))
  clear hb3
  go_wp2
  go_ret
  exact ⟨ret_bool (by simp), HF.out⟩

set_option maxRecDepth 100000 in
set_option maxHeartbeats 6400000 in
theorem step_len (h : Both wB X mv ms ss X2 sv rs rs w G rv) (hst : Short rs) (pred : Int) (u : Value) (nn : Int) :
    Calls Try.prog 36 #[.pointer (some ⟨X, 0, none⟩), .pointer (some ⟨X2, 0, none⟩), .agg #[.int .i64 3, .int .i64 pred, u, .int .i64 nn]] w (StepIs wB X mv ms ss X2 sv rs) := by
  obtain ⟨w0, hw0⟩ : ∃ w0, w0 = w.alloc (.cells #[.int .i64 3, .int .i64 pred, u, .int .i64 nn] 66) := ⟨_, rfl⟩
  have hb0 : Below w.heap.size w w0 := by rw [hw0]; exact up_alloc _ _
  have HB0 := Lib.hid (h.up hb0)
  have HST := Lib.hid hst
  have HA := Lib.hid (HB0.out.len)
  have HR := Lib.hid (rlen_any HB0.out)
  clear h hst hb0
  go_enter Try.func36, Try.ntmps36
  go_wp2_with fail
  rw [← hw0]
  clear hw0
  refine HA.out.mono ?_
  rintro e w1 ⟨rfl, rfl⟩
  go_wp2_with fail
  refine HR.out.mono ?_
  rintro e w1 ⟨rfl, rfl⟩
  go_wp2
  go_ret
  exact ⟨ret_bool (by simp), rs, G, rv, HB0.out, by omega, HST.out⟩

set_option maxRecDepth 100000 in
set_option maxHeartbeats 6400000 in
theorem step_none (h : Both wB X mv ms ss X2 sv rs rs w G rv) (hst : Short rs) (kind pred : Int) (u : Value) (nn : Int) (h1 : kind ≠ 1) (h2 : kind ≠ 2) (h3 : kind ≠ 3) (h4 : kind ≠ 4) :
    Calls Try.prog 36 #[.pointer (some ⟨X, 0, none⟩), .pointer (some ⟨X2, 0, none⟩), .agg #[.int .i64 kind, .int .i64 pred, u, .int .i64 nn]] w (StepIs wB X mv ms ss X2 sv rs) := by
  have HF := Lib.hid (h.alloc (.cells #[.int .i64 kind, .int .i64 pred, u, .int .i64 nn] 66))
  have HST := Lib.hid hst
  have e1 : (kind == 1) = false := by simpa using h1
  have e2 : (kind == 2) = false := by simpa using h2
  have e3 : (kind == 3) = false := by simpa using h3
  have e4 : (kind == 4) = false := by simpa using h4
  clear h hst
  go_enter Try.func36, Try.ntmps36
  go_wp2
  go_ret
  exact ⟨rfl, rs, G, rv, HF.out, by omega, HST.out⟩

set_option maxRecDepth 100000 in
set_option maxHeartbeats 6400000 in
theorem step_undo (h : Both wB X mv ms ss X2 sv rs rs w G rv) (hss : ss.length ≤ 4398046510976) (hn : rs.length ≤ 4398046510976) (hst : Short rs) (pred : Int) (u : Value) (nn : Int) :
    Calls Try.prog 36 #[.pointer (some ⟨X, 0, none⟩), .pointer (some ⟨X2, 0, none⟩), .agg #[.int .i64 4, .int .i64 pred, u, .int .i64 nn]] w (StepIs wB X mv ms ss X2 sv rs) := by
  obtain ⟨w0, hw0⟩ : ∃ w0, w0 = w.alloc (.cells #[.int .i64 4, .int .i64 pred, u, .int .i64 nn] 66) := ⟨_, rfl⟩
  have hb0 : Below w.heap.size w w0 := by rw [hw0]; exact up_alloc _ _
  have HB0 := Lib.hid (h.up hb0)
  have HX := Lib.hid (show OpBox w0 w.heap.size 4 pred u nn by rw [hw0]; exact OpBox.made _ _ _ _ _)
  have hbl : w.heap.size < w0.heap.size := by rw [hw0]; simp
  have HST := Lib.hid hst
  have hBw := h.exc.size
  have b0 := HX.out.c0
  have b3 := HX.out.c3
  by_cases hm : 0 ≤ nn ∧ nn ≤ (rs.length : Int)
  · obtain ⟨m, hnm⟩ := Int.eq_ofNat_of_zero_le hm.1
    have hml : m ≤ rs.length := by omega
    have hX2b : w.heap.size ≠ X2 := by have := h.lt2; omega
    have hrvb : rv.ownBlock ≠ some w.heap.size := by
      obtain ⟨vs, _, ho, _⟩ := h.rows
      exact fun e => by have := World.ownsRow.lt ho _ e; omega
    have hGb : G w.heap.size = 0 := h.net.zero _ (Nat.le_refl _)
    have HXB := Lib.hid (And.intro hX2b (And.intro hrvb hGb))
    have HUN : Hid (Calls Try.prog 46 #[.pointer (some ⟨X, 0, none⟩), .int .i64 nn] w0.drew fun e w' => e = .returned (.int .i64 0) ∧ MNet w' G X mv ms ss (lsOf ss (rs.take m)) m ∧ Turned G w0.drew w') := by
      rw [hnm]
      refine undo_yes HB0.out.drew.net hml hss (lsOf ss (rs.take m)) (fun j => match ss[j]? with | some s => idxFrom (fitR s) m (rs.drop m) | none => []) (fun i hi => ?_) (fun i hi x hx => ?_) (fun i hi x hx => ?_) (fun i _ => Nat.le_trans (lsOf_len ss rs i) (by omega))
      · have hs : ss[i]? = some ss[i] := List.getElem?_eq_getElem hi
        rw [lsOf_some hs, lsOf_some hs]
        simp only [hs]
        exact nums_cut _ _ hml
      · have hs : ss[i]? = some ss[i] := List.getElem?_eq_getElem hi
        rw [lsOf_some hs] at hx
        have := idx_bounds (f := fitR ss[i]) (rs.take m) x hx
        rw [List.length_take, Nat.min_eq_left hml] at this
        exact this.2
      · have hs : ss[i]? = some ss[i] := List.getElem?_eq_getElem hi
        simp only [hs] at hx
        exact (idxFrom_bounds (f := fitR ss[i]) (rs.drop m) m x hx).1
    have HRU : Hid (∀ w1, Both wB X mv ms ss X2 sv (rs.take m) rs w1 G rv → Calls Try.prog 57 #[.pointer (some ⟨X2, 0, none⟩), .int .i64 nn] w1 (RUndoIs wB X mv ms ss X2 sv (rs.take m) rs w1 G rv m)) := fun w1 hb => by
      rw [hnm]; exact rundo_yes hb hn hml
    have HML := Lib.hid hml
    clear h hst hb0 hm hnm hX2b hrvb hGb hml
    go_enter Try.func36, Try.ntmps36
    go_wp2_with fail
    rw [← hw0]
    clear hw0
    go_region_held3 (fun w' => w'.cell? ⟨w.heap.size, 3, none⟩ = some (.int .i64 nn))
      (first | exact b3 | exact m3 | exact q3)
      (first
        | (go_at_call 46; refine HUN.out.mono ?_; rintro e w1 ⟨rfl, hnet, hT⟩; have hB1 : Both wB X mv ms ss X2 sv (rs.take m) rs w1 G rv := HB0.out.drew.turn (by rw [List.length_take, Nat.min_eq_left HML.out]; exact hnet) (fun _ _ => rfl) hT; have m3 := (HX.out.keep (hT.block w.heap.size hbl (by rw [HXB.out.2.2]; decide))).c3; have HB1 := Lib.hid hB1; have hbl1 : w.heap.size < w1.heap.size := Nat.lt_of_lt_of_le hbl hT.size; clear hB1 hnet hT)
        | (go_at_call 57; refine (HRU.out _ (by exact HB1.out)).mono ?_; rintro e w2 ⟨rv2, rfl, hB2, hC2⟩; have m3' := (World.cell?_of_block (hC2.block w.heap.size hbl1 HXB.out.1 HXB.out.2.1)).trans m3; have q3 := m3'; have HB2 := Lib.hid hB2; clear hB2 hC2))
    go_wp2
    go_ret
    exact ⟨ret_bool (by simp), _, _, _, HB2.out, by rw [List.length_take]; omega, HST.out.take m⟩
  · have hm2 : nn < 0 ∨ (rs.length : Int) < nn := by
      rcases Int.lt_or_le nn 0 with h1 | h1
      · exact .inl h1
      · exact .inr (by rcases Int.lt_or_le (rs.length : Int) nn with h2 | h2
                       · exact h2
                       · exact absurd ⟨h1, h2⟩ hm)
    have HUN := Lib.hid (undo_no HB0.out.drew.net nn hm2)
    have HRU := Lib.hid (rundo_no HB0.out.drew nn hm2)
    have HFD := Lib.hid HB0.out.drew
    clear h hst hb0 hm hm2
    go_enter Try.func36, Try.ntmps36
    go_wp2_with fail
    rw [← hw0]
    clear hw0
    go_region_held3 (fun w' => w'.cell? ⟨w.heap.size, 3, none⟩ = some (.int .i64 nn))
      (first | exact b3)
      (first
        | (go_at_call 46; refine HUN.out.mono ?_; rintro e w1 ⟨rfl, rfl⟩)
        | (go_at_call 57; refine HRU.out.mono ?_; rintro e w2 ⟨rfl, rfl⟩))
    go_wp2
    go_ret
    exact ⟨ret_bool (by simp), _, _, _, HFD.out, by omega, HST.out⟩

theorem step_any (h : Both wB X mv ms ss X2 sv rs rs w G rv) (hsh : OwnShps wB (X2 + 1) sv ss) (hok : Okays ss) (hva : ∀ s, s ∈ ss → validB s = true) (hss : ss.length ≤ 4398046510976) (hn : rs.length < 4398046510976) (hst : Short rs) (kind pred : Int) (row : List Int) (u : Value) (nn : Int)
    (hu : IntsAt w w.heap.size u row) (hny : Nilly u) (hub : row ≠ [] → ∀ k, u.ownBlock = some k → k < wB.heap.size ∧ k ≠ X2) (hr : row.length ≤ 17592186044400) :
    Calls Try.prog 36 #[.pointer (some ⟨X, 0, none⟩), .pointer (some ⟨X2, 0, none⟩), .agg #[.int .i64 kind, .int .i64 pred, u, .int .i64 nn]] w (StepIs wB X mv ms ss X2 sv rs) := by
  by_cases h1 : kind = 1
  · subst h1; exact step_add h hsh hok hva hss hn hst pred row u nn hu hny hub hr
  by_cases h2 : kind = 2
  · subst h2
    refine (step_rows h hsh hok (by omega) hst pred u nn).mono ?_
    rintro e w' ⟨rfl, hb⟩
    exact ⟨rfl, rs, G, rv, hb, by omega, hst⟩
  by_cases h3 : kind = 3
  · subst h3; exact step_len h hst pred u nn
  by_cases h4 : kind = 4
  · subst h4; exact step_undo h hss (by omega) hst pred u nn
  · exact step_none h hst kind pred u nn h1 h2 h3 h4
end

end Go.Proofs.Ytlandkindbmbfaa
/-
  The walk of the law AlphaNets: it returns true and leaves what was in memory. Conditions: the arguments are within the form's own reach.
-/
namespace Go.Proofs.Ytlandkindbmbfaa
open Go.RowKit Plain
attribute [local go_sem ↓] Go.wp_at_zero Go.wp_at_succ

structure OpD where
  kind : Int
  pred : Int
  row : List Int
  nn : Int
/-- A slice value that reads as the calls ops, all below block B. -/
def OpsAt (w : World) (B : Nat) (v : Value) (ops : List OpD) : Prop :=
  ∃ (a : Option Addr) (cap : Nat), v = .slice a ops.length cap ∧ (ops = [] ∨ ∃ g off, a = some ⟨g, off, none⟩ ∧ g < B ∧
    ∀ (j : Nat) (s : OpD), ops[j]? = some s → ∃ u, w.cell? ⟨g, off + j * 4, none⟩ = some (.int .i64 s.kind) ∧ w.cell? ⟨g, off + j * 4 + 1, none⟩ = some (.int .i64 s.pred) ∧ w.cell? ⟨g, off + j * 4 + 2, none⟩ = some u ∧ w.cell? ⟨g, off + j * 4 + 3, none⟩ = some (.int .i64 s.nn) ∧ IntsAt w B u s.row ∧ Nilly u)
def OpsArg (w : World) (v : Value) (ops : List OpD) : Prop := OpsAt w w.heap.size v ops ∧ (∀ s, s ∈ ops → s.row.length ≤ 17592186044400) ∧ ops.length ≤ 4398046510975
def NetsArg (w : World) (v : Value) (ss : List Shp) : Prop := ShpsAt w w.heap.size v ss ∧ Okays ss ∧ ss.length ≤ 4398046510976 ∧ ∀ a n c, v = .slice a n c → n ≤ c
theorem OpsAt.below {w w' : World} {B : Nat} {v : Value} {ops : List OpD} (h : OpsAt w B v ops) (hb : Below B w w') : OpsAt w' B v ops := by
  obtain ⟨a, cap, rfl, h⟩ := h
  refine ⟨a, cap, rfl, ?_⟩
  rcases h with rfl | ⟨g, off, rfl, hg, hc⟩
  · exact .inl rfl
  · refine .inr ⟨g, off, rfl, hg, fun j s hj => ?_⟩
    obtain ⟨u, h1, h2, h3, h4, h5, h6⟩ := hc j s hj
    exact ⟨u, below_cells hb hg h1, below_cells hb hg h2, below_cells hb hg h3, below_cells hb hg h4, h5.below hb, h6⟩
theorem OpsAt.form {w : World} {B : Nat} {v : Value} {ops : List OpD} (h : OpsAt w B v ops) : ∃ a c, v = .slice a ops.length c ∧ (ops ≠ [] → ∃ g off, a = some ⟨g, off, none⟩) := by
  obtain ⟨a, cap, rfl, h⟩ := h
  refine ⟨a, cap, rfl, fun hn => ?_⟩
  obtain ⟨g, off, h1, _⟩ := h.resolve_left hn
  exact ⟨g, off, h1⟩
theorem OpsAt.get {w : World} {B g off c n : Nat} {ops : List OpD} (h : OpsAt w B (.slice (some ⟨g, off, none⟩) n c) ops) {i : Nat} {s : OpD} (hs : ops[i]? = some s) :
    g < B ∧ ∃ u, w.cell? ⟨g, off + i * 4, none⟩ = some (.int .i64 s.kind) ∧ w.cell? ⟨g, off + i * 4 + 1, none⟩ = some (.int .i64 s.pred) ∧ w.cell? ⟨g, off + i * 4 + 2, none⟩ = some u ∧ w.cell? ⟨g, off + i * 4 + 3, none⟩ = some (.int .i64 s.nn) ∧ IntsAt w B u s.row ∧ Nilly u := by
  obtain ⟨a, cap, e, h⟩ := h
  simp only [Value.slice.injEq] at e
  obtain ⟨rfl, rfl, rfl⟩ := e
  rcases h with rfl | ⟨g', off', h1, hg, hc⟩
  · simp at hs
  · simp only [Option.some.injEq, Addr.mk.injEq, and_true] at h1
    obtain ⟨rfl, rfl⟩ := h1
    exact ⟨hg, hc i s hs⟩
theorem IntsAt.block {w : World} {B : Nat} {u : Value} {l : List Int} (h : IntsAt w B u l) : l ≠ [] → ∀ k, u.ownBlock = some k → k < B := by
  intro hne k hk
  obtain ⟨a, cap, rfl, h⟩ := h
  obtain ⟨g, off, rfl, hg, _⟩ := h.resolve_left hne
  have : g = k := by simpa [Value.ownBlock] using hk
  omega

set_option maxRecDepth 100000 in
set_option maxHeartbeats 12800000 in
theorem nets_row (v : Value) (ss : List Shp) {w : World} (hv : NetsArg w v ss) (u : Value) (ops : List OpD) (hu : OpsArg w u ops) :
    Calls Try.prog 9 #[v, u] w fun e w' => e = .returned (.bool true) ∧ Below w.heap.size w w' := by
  obtain ⟨hv, hok, hn, hcap⟩ := hv
  obtain ⟨hu, hol, hon⟩ := hu
  obtain ⟨a, ca, rfl, ha⟩ := hv.form
  obtain ⟨b, cb, rfl, hb⟩ := hu.form
  have HV := Lib.hid hv
  have HU := Lib.hid hu
  have HBF := Lib.hid hb
  have HOK := Lib.hid hok
  have HOL := Lib.hid hol
  have HCAP := Lib.hid hcap
  have HSO := Lib.hid (shapesOf_any ss _ w hv hok hn)
  clear hv hu ha hb hok hol hcap
  go_enter Try.func9, Try.ntmps9
  go_wp2_with fail
  refine HSO.out.mono ?_
  rintro e w1 ⟨ov, rfl, hoo, hb1⟩
  obtain ⟨aO, cO, rfl, _⟩ := hoo.at.form
  have HOO := Lib.hid hoo
  have N1 := Lib.hid hb1
  have hz1 := hb1.size
  have HV1 := Lib.hid ((HV.out.below hb1).mono hz1)
  clear hoo hb1 HSO
  go_wp2_with fail
  refine (rnew_any ss _ w1 HV1.out HCAP.out HOK.out hn).mono ?_
  rintro e w2 (⟨hbad, rfl, hb2⟩ | ⟨hgood, X2, sv, rfl, hX2, hbox, hsh, hb2⟩)
  · have HBAD := Lib.hid hbad
    have N2 := Lib.hid (N1.out.trans (hb2.mono hz1))
    have HO2 := Lib.hid (HOO.out.up hb2)
    have hz2 := N2.out.size
    clear hbad hb2
    go_wp2_with fail
    refine (new_any ss _ w2 HO2.out.at HO2.out.cap HOK.out hn).mono ?_
    rintro e w3 (⟨_, rfl, hb3⟩ | ⟨hgood, _⟩)
    · have N3 := Lib.hid (N2.out.trans (hb3.mono hz2))
      have HO3 := Lib.hid (HO2.out.up hb3)
      have HV3 := Lib.hid ((HV.out.below N3.out).mono N3.out.size)
      clear hb3
      go_wp2_with fail
      refine (shapes_same ss _ _ w3 HO3.out.at HV3.out HOK.out hn).mono ?_
      rintro e w4 ⟨rfl, hb4⟩
      have N4 := Lib.hid (N3.out.trans (hb4.mono N3.out.size))
      clear hb4
      go_wp2
      go_ret
      exact ⟨rfl, N4.out⟩
    · rw [HBAD.out] at hgood; cases hgood
  · have HGOOD := Lib.hid hgood
    have N2 := Lib.hid (N1.out.trans (hb2.mono hz1))
    have HO2 := Lib.hid (HOO.out.up hb2)
    have hz2 := N2.out.size
    have HSH := Lib.hid hsh
    have HBOX := Lib.hid hbox
    have hX2w : w.heap.size ≤ X2 := Nat.le_trans hz1 hX2
    have hx2 := lt_of_block hbox
    clear hgood hb2 hsh hbox
    go_wp2_with fail
    refine (new_any ss _ w2 HO2.out.at HO2.out.cap HOK.out hn).mono ?_
    rintro e w3 (⟨hbad, _⟩ | ⟨_, G, X, mv, ms, rfl, hnet, hb3, hG0⟩)
    · rw [HGOOD.out] at hbad; cases hbad
    · have HB3 : Hid (Both w2 X mv ms ss X2 sv [] [] w3 G (.slice none 0 0)) :=
        ⟨hnet.congr (fun i _ => (lsOf_nil ss i).symm), hG0, hx2, (hb3.block X2 hx2).trans HBOX.out, RowsZ.nil _ _ _, ⟨hb3.os, hb3.tape, hb3.output, hb3.size, fun k hk _ => hb3.block k hk⟩⟩
      have N3 := Lib.hid (N2.out.trans (hb3.mono hz2))
      have HO3 := Lib.hid (HO2.out.up hb3)
      have HV3 := Lib.hid ((HV.out.below N3.out).mono N3.out.size)
      have HVA := Lib.hid (newB_valid HGOOD.out)
      clear hnet hb3 hG0
      go_wp2_with fail
      refine (shapes_same ss _ _ w3 HO3.out.at HV3.out HOK.out hn).mono ?_
      rintro e w4 ⟨rfl, hb4⟩
      have HB4 := Lib.hid (HB3.out.up hb4)
      clear hb4
      go_wp2
      go_loopw [10] (fun k wr => ∃ (i : Nat) (rs : List Shp) (G : Nat → Nat) (rv : Value), k = .int .i64 (i : Int) ∧ i ≤ ops.length ∧ Hid (Both w2 X mv ms ss X2 sv rs rs wr G rv) ∧ rs.length ≤ i ∧ Hid (Short rs)) (fun k _ => ops.length - (intOf k).toNat)
      case atStart => exact ⟨0, [], G, _, rfl, Nat.zero_le _, HB4, Nat.zero_le _, Lib.hid (fun r hr => by cases hr)⟩
      case round =>
        obtain ⟨i, rs, G', rv, rfl, hil, HB, hrl, HST⟩ := hrel
        have NB := Lib.hid (N2.out.trans (HB.out.exc.below hX2w hz2))
        by_cases h1 : i < ops.length
        · obtain ⟨s, hs⟩ : ∃ s, ops[i]? = some s := ⟨ops[i]'h1, List.getElem?_eq_getElem h1⟩
          obtain ⟨g, off, rfl⟩ := HBF.out (fun e => by rw [e] at hs; cases hs)
          obtain ⟨hg, ux, c0, c1, c2, c3, hux, hny⟩ := OpsAt.get (HU.out.below NB.out) hs
          obtain ⟨au, cu, rfl, hau⟩ := id hux
          have hsl := HOL.out s (List.mem_of_getElem? hs)
          have i0 : (0 : Int) ≤ (i : Int) := Int.natCast_nonneg _
          have i1 : (i : Int) < (ops.length : Int) := by omega
          have HNY := Lib.hid hny
          have HUX := Lib.hid hux
          have HSTEP : Hid (Calls Try.prog 36 #[.pointer (some ⟨X, 0, none⟩), .pointer (some ⟨X2, 0, none⟩), .agg #[.int .i64 s.kind, .int .i64 s.pred, .slice au s.row.length cu, .int .i64 s.nn]] wr (StepIs w2 X mv ms ss X2 sv rs)) := by
            refine step_any HB.out HSH.out HOK.out HVA.out hn (by omega) HST.out s.kind s.pred s.row _ s.nn (HUX.out.mono NB.out.size) HNY.out (fun hne k hk => ?_) hsl
            have := HUX.out.block hne k hk
            omega
          clear hs hux hny hau hg
          go_wp2_with fail
          refine HSTEP.out.mono ?_
          rintro e w5 ⟨rfl, rs', G5, rv5, hB5, hl5, hs5⟩
          have HB5 := Lib.hid hB5
          have HS5 := Lib.hid hs5
          clear hB5 hs5
          go_wp2
          go_roundw
          case rel => exact ⟨i + 1, rs', G5, rv5, by go_num, by omega, HB5, by omega, HS5⟩
          case measure => simp only [intOf]; omega
        · have hrn : rs.length ≤ 4398046510976 := by omega
          have HB' := HB
          clear HB NB hrl
          go_wp2
          go_loopw [11] (fun k wr => ∃ (q : Int), k = .int .i64 q ∧ -1 ≤ q ∧ q ≤ (ss.length : Int) + 1 ∧ Hid (Both w2 X mv ms ss X2 sv rs rs wr G' rv)) (fun k _ => ((ss.length : Int) + 1 - intOf k).toNat)
          case atStart => exact ⟨-1, rfl, by omega, by omega, HB'⟩
          case round =>
            obtain ⟨q, rfl, hq0, hq1, HB⟩ := hrel
            by_cases h2 : q ≤ (ss.length : Int)
            · have hd : decide (q ≤ (ss.length : Int)) = true := decide_eq_true h2
              have hw : IntKind.i64.wrap (q + 1) = q + 1 := by rw [IntKind.wrap_i64]; omega
              have HS := Lib.hid (step_rows HB.out HSH.out HOK.out hrn HST.out 0 (.slice none 0 0) q)
              go_wp2_with fail
              refine HS.out.mono ?_
              rintro e w5 ⟨rfl, hB5⟩
              have HB5 := Lib.hid hB5
              clear hB5
              go_wp2
              go_roundw
              case rel => exact ⟨q + 1, by first | rfl | (simp only [hw]), by omega, by omega, HB5⟩
              case measure => simp only [intOf]; omega
            · have hd : decide (q ≤ (ss.length : Int)) = false := decide_eq_false h2
              have HL := Lib.hid HB.out.len
              have HR := Lib.hid (rlen_any HB.out)
              have NF := Lib.hid (N2.out.trans (HB.out.exc.below hX2w hz2))
              go_wp2_with fail
              refine HL.out.mono ?_
              rintro e w5 ⟨rfl, rfl⟩
              go_wp2_with fail
              refine HR.out.mono ?_
              rintro e w5 ⟨rfl, rfl⟩
              go_wp2
              go_ret
              exact ⟨ret_bool (by simp), NF.out⟩

end Go.Proofs.Ytlandkindbmbfaa
/-
  Opening of the arguments of AlphaNets: shapes with room, calls; its walk. No condition.
-/
namespace Go.Proofs.Ytlandkindbmbfaa
open Go.RowKit Plain Go.ChangeShapes Go.WideShapes Go.ChangeAt Go.Deep Go.Joins

set_option maxRecDepth 100000 in
theorem open_shapes2 {H : Type} {enc : TypeId × Value → H} {W : World} {base : Nat} {v : Value} {d : DataW H} {p : List MemPlace} (hval : Value.okWide Try.prog W .any base 22 v)
    (h : DataW.Trod enc Try.prog W 0 (fun _ => true) true 22 v d p) (hsz : ∀ n ∈ d.weights Try.prog 22, n ≤ reachBytes) : ∃ ss, NetsArg W v ss := by
  obtain ⟨a0, len, cap, rfl⟩ := okWide_slice Try.underlying22 hval
  obtain ⟨fuel, hf⟩ := h
  rcases open_slice Try.underlying22 hf with ⟨hcs, _⟩ | ⟨x, n, c, m, k, D, Pl, hcs, _, hl, hm, hmm, hx, hcell⟩
  · simp [Value.cells] at hcs
    obtain ⟨rfl, rfl, rfl⟩ := hcs
    exact ⟨[], ⟨none, 0, rfl, .inl rfl⟩, fun s hs => by simp at hs, by simp, fun a n c e => by simp only [Value.slice.injEq] at e; omega⟩
  · simp [Value.cells] at hcs
    obtain ⟨rfl, rfl, rfl⟩ := hcs
    simp only [if_true] at hmm
    subst hmm
    simp only [Prod.mk.injEq] at hx
    have hw : len * 32 ≤ reachBytes := by
      have := hsz ((len + (m - len)) * Try.prog.bytesOf 27) (by rw [hx.1]; simp [DataW.weights, Try.underlying22])
      rw [Try.bytes27] at this
      omega
    have hlr : len ≤ 4398046510976 := by simp only [reachBytes] at hw; omega
    have hD : ∀ i, i < len → ∀ n ∈ (D i).weights Try.prog 27, n ≤ reachBytes := fun i hi n hn => hsz n (by
      rw [hx.1]; unfold DataW.weights; rw [Try.underlying22]
      exact List.mem_cons_of_mem _ (List.mem_append.2 (.inl (mem_weightsAll (List.mem_map.2 ⟨i, List.mem_range.2 hi, rfl⟩) n hn))))
    clear hw hsz hx
    by_cases h0 : len = 0
    · subst h0
      exact ⟨[], ⟨some x, m, rfl, .inl rfl⟩, fun s hs => by simp at hs, by simp, fun a n c e => by simp only [Value.slice.injEq] at e; omega⟩
    · obtain ⟨b, off, sp⟩ := x
      have first : sp = none ∧ b < W.heap.size := by
        obtain ⟨cs', hc1, hc2⟩ := hcell 0 (by omega)
        rw [Try.cells27] at hc1
        obtain ⟨s, u, rfl, _⟩ := open_shape hc2 (hD 0 (by omega))
        have hc := (World.cells?_some hc1).2.2 0 (by omega)
        have e : ((⟨b, off, sp⟩ : Addr).add (0 * 2)).add 0 = ⟨b, off, sp⟩ := by simp [Addr.add]
        rw [e] at hc
        exact ⟨World.cell?_spot hc, World.block_lt_of_cell? W _ hc⟩
      obtain ⟨rfl, hb⟩ := first
      have each : ∀ i, i < len → ∃ s : Shp, (Okay s ∧ s.cells.length ≤ 17592186044400) ∧ ∃ u, W.cell? ⟨b, off + i * 2, none⟩ = some (.int .i64 s.pred) ∧ W.cell? ⟨b, off + i * 2 + 1, none⟩ = some u ∧ IntsAt W W.heap.size u s.cells ∧ Nilly u := by
        intro i hi
        obtain ⟨cs', hc1, hc2⟩ := hcell i (by omega)
        rw [Try.cells27] at hc1
        obtain ⟨s, u, rfl, h1, h2, h3, h4⟩ := open_shape hc2 (hD i hi)
        have hc := (World.cells?_some hc1).2.2
        have g : ∀ j, j < 2 → W.cell? ⟨b, off + i * 2 + j, none⟩ = [Value.int .i64 s.pred, u][j]? := fun j hj => by
          have := hc j hj
          rw [addr_add, addr_add] at this; exact this
        exact ⟨s, ⟨h3, h4⟩, u, g 0 (by omega), g 1 (by omega), h1, h2⟩
      obtain ⟨f, hfm⟩ := choose_lt each
      have hlen : ((List.range len).map f).length = len := by simp
      refine ⟨(List.range len).map f, ⟨some ⟨b, off, none⟩, m, by rw [hlen], .inr ⟨b, off, rfl, hb, fun j s hj => ?_⟩⟩, fun s hs => ?_, by rw [hlen]; exact hlr, fun a n c e => by simp only [Value.slice.injEq] at e; omega⟩
      · have hjl : j < len := by
          have := (List.getElem?_eq_some_iff.1 hj).1
          omega
        rw [List.getElem?_map, List.getElem?_range hjl] at hj
        simp only [Option.map_some, Option.some.injEq] at hj
        subst hj
        exact (hfm j hjl).2
      · obtain ⟨i, hi, rfl⟩ := List.mem_map.1 hs
        exact (hfm i (List.mem_range.1 hi)).1

theorem Try.cells66 : Try.prog.cellsOf 66 = 4 := by kernel_rfl
theorem Try.bytes66 : Try.prog.bytesOf 66 = 48 := by kernel_rfl

set_option maxRecDepth 100000 in
theorem open_op {H : Type} {enc : TypeId × Value → H} {W : World} {fuel : Nat} {cs : List Value} {y : DataW H × List MemPlace}
    (hf : DataW.trod enc Try.prog W 0 (fun _ => true) true fuel 66 cs = some y) (hsz : ∀ n ∈ y.1.weights Try.prog 66, n ≤ reachBytes) :
    ∃ (s : OpD) (u : Value), cs = [.int .i64 s.kind, .int .i64 s.pred, u, .int .i64 s.nn] ∧ IntsAt W W.heap.size u s.row ∧ Nilly u ∧ s.row.length ≤ 17592186044400 := by
  obtain ⟨xs, n, _, hx, hl, hlen, hg⟩ := DataW.trod_struct Try.underlying66 hf
  rw [Try.cells66] at hl
  match cs, hl with
  | [e0, e1, e2, e3], _ =>
    match xs, hlen with
    | [y0, y1, y2, y3], _ =>
      have f0 : DataW.trod enc Try.prog W 0 (fun _ => true) true n 3 [e0] = some y0 := by
        have := hg 0 _ rfl
        simpa [Try.cells3] using this
      have f1 : DataW.trod enc Try.prog W 0 (fun _ => true) true n 3 [e1] = some y1 := by
        have := hg 1 _ rfl
        simpa [Try.cells3] using this
      have f2 : DataW.trod enc Try.prog W 0 (fun _ => true) true n 25 [e2] = some y2 := by
        have := hg 2 _ rfl
        simpa [Try.cells3, Try.cells25] using this
      have f3 : DataW.trod enc Try.prog W 0 (fun _ => true) true n 3 [e3] = some y3 := by
        have := hg 3 _ rfl
        simpa [Try.cells3, Try.cells25] using this
      obtain ⟨k, hk, _, _⟩ := DataW.trod_int Try.underlying3 f0
      obtain ⟨p, hp, _, _⟩ := DataW.trod_int Try.underlying3 f1
      obtain ⟨q, hq, _, _⟩ := DataW.trod_int Try.underlying3 f3
      obtain ⟨u, l, hu, h1, h2, h3, h4⟩ := open_intlist f2 (fun n hn => hsz n (by rw [hx]; simp [DataW.weights, DataW.weightsEach, Try.underlying66, hn]))
      simp only [List.cons.injEq, and_true] at hk hp hq hu
      subst hk hp hq hu
      exact ⟨⟨k, p, l, q⟩, e2, rfl, h1, h2, by simp only; omega⟩

instance : Inhabited OpD := ⟨⟨0, 0, [], 0⟩⟩

set_option maxRecDepth 100000 in
theorem open_ops {H : Type} {enc : TypeId × Value → H} {W : World} {base : Nat} {v : Value} {d : DataW H} {p : List MemPlace} (hval : Value.okWide Try.prog W .any base 56 v)
    (h : DataW.Trod enc Try.prog W 0 (fun _ => true) true 56 v d p) (hsz : ∀ n ∈ d.weights Try.prog 56, n ≤ reachBytes) : ∃ ss, OpsArg W v ss := by
  obtain ⟨a0, len, cap, rfl⟩ := okWide_slice Try.underlying56 hval
  obtain ⟨fuel, hf⟩ := h
  rcases open_slice Try.underlying56 hf with ⟨hcs, _⟩ | ⟨x, n, c, m, k, D, Pl, hcs, _, hl, hm, hmm, hx, hcell⟩
  · simp [Value.cells] at hcs
    obtain ⟨rfl, rfl, rfl⟩ := hcs
    exact ⟨[], ⟨none, 0, rfl, .inl rfl⟩, fun s hs => by simp at hs, by simp⟩
  · simp [Value.cells] at hcs
    obtain ⟨rfl, rfl, rfl⟩ := hcs
    simp only [if_true] at hmm
    subst hmm
    simp only [Prod.mk.injEq] at hx
    have hw : len * 48 ≤ reachBytes := by
      have := hsz ((len + (m - len)) * Try.prog.bytesOf 66) (by rw [hx.1]; simp [DataW.weights, Try.underlying56])
      rw [Try.bytes66] at this
      omega
    have hlr : len ≤ 4398046510975 := by simp only [reachBytes] at hw; omega
    have hD : ∀ i, i < len → ∀ n ∈ (D i).weights Try.prog 66, n ≤ reachBytes := fun i hi n hn => hsz n (by
      rw [hx.1]; unfold DataW.weights; rw [Try.underlying56]
      exact List.mem_cons_of_mem _ (List.mem_append.2 (.inl (mem_weightsAll (List.mem_map.2 ⟨i, List.mem_range.2 hi, rfl⟩) n hn))))
    clear hw hsz hx
    by_cases h0 : len = 0
    · subst h0
      exact ⟨[], ⟨some x, m, rfl, .inl rfl⟩, fun s hs => by simp at hs, by simp⟩
    · obtain ⟨b, off, sp⟩ := x
      have first : sp = none ∧ b < W.heap.size := by
        obtain ⟨cs', hc1, hc2⟩ := hcell 0 (by omega)
        rw [Try.cells66] at hc1
        obtain ⟨s, u, rfl, _⟩ := open_op hc2 (hD 0 (by omega))
        have hc := (World.cells?_some hc1).2.2 0 (by omega)
        have e : ((⟨b, off, sp⟩ : Addr).add (0 * 4)).add 0 = ⟨b, off, sp⟩ := by simp [Addr.add]
        rw [e] at hc
        exact ⟨World.cell?_spot hc, World.block_lt_of_cell? W _ hc⟩
      obtain ⟨rfl, hb⟩ := first
      have each : ∀ i, i < len → ∃ s : OpD, s.row.length ≤ 17592186044400 ∧ ∃ u, W.cell? ⟨b, off + i * 4, none⟩ = some (.int .i64 s.kind) ∧ W.cell? ⟨b, off + i * 4 + 1, none⟩ = some (.int .i64 s.pred) ∧ W.cell? ⟨b, off + i * 4 + 2, none⟩ = some u ∧ W.cell? ⟨b, off + i * 4 + 3, none⟩ = some (.int .i64 s.nn) ∧ IntsAt W W.heap.size u s.row ∧ Nilly u := by
        intro i hi
        obtain ⟨cs', hc1, hc2⟩ := hcell i (by omega)
        rw [Try.cells66] at hc1
        obtain ⟨s, u, rfl, h1, h2, h3⟩ := open_op hc2 (hD i hi)
        have hc := (World.cells?_some hc1).2.2
        have g : ∀ j, j < 4 → W.cell? ⟨b, off + i * 4 + j, none⟩ = [Value.int .i64 s.kind, .int .i64 s.pred, u, .int .i64 s.nn][j]? := fun j hj => by
          have := hc j hj
          rw [addr_add, addr_add] at this; exact this
        exact ⟨s, h3, u, g 0 (by omega), g 1 (by omega), g 2 (by omega), g 3 (by omega), h1, h2⟩
      obtain ⟨f, hfm⟩ := choose_lt each
      have hlen : ((List.range len).map f).length = len := by simp
      refine ⟨(List.range len).map f, ⟨some ⟨b, off, none⟩, m, by rw [hlen], .inr ⟨b, off, rfl, hb, fun j s hj => ?_⟩⟩, fun s hs => ?_, by rw [hlen]; exact hlr⟩
      · have hjl : j < len := by
          have := (List.getElem?_eq_some_iff.1 hj).1
          omega
        rw [List.getElem?_map, List.getElem?_range hjl] at hj
        simp only [Option.map_some, Option.some.injEq] at hj
        subst hj
        exact (hfm j hjl).2
      · obtain ⟨i, hi, rfl⟩ := List.mem_map.1 hs
        exact (hfm i (List.mem_range.1 hi)).1

theorem nets_at (v : Value) (ss : List Shp) {w : World} (hv : NetsArg w v ss) (u : Value) (ops : List OpD) (hu : OpsArg w u ops) :
    Calls Try.prog 9 #[v, u] w fun e w' => e = .returned (.bool true) ∧ Below w.heap.size w w' := nets_row v ss hv u ops hu

end Go.Proofs.Ytlandkindbmbfaa
/-
  A net of memories in memory, as before, where each memory may be watched: the list of its watchers is the net's own, and is not written while the net works. No condition beyond those that each lemma states.
-/
namespace Go.Proofs.Ytlandkindbmbfaa
/-- The watchers of each memory: the slice value, and what it holds. -/
structure WVals where
  v : Nat → Value
  fs : Nat → List Value
def wvOf [Inhabited WVals] (i : Nat) : Value := (default : WVals).v i
def wfOf [Inhabited WVals] (i : Nat) : List Value := (default : WVals).fs i
end Go.Proofs.Ytlandkindbmbfaa
namespace Go.Proofs.Ytlandkindbmbfaa.Wa
open Go.RowKit Plain
variable [Inhabited WVals]

/-- The memory number i, of the shape s, with the rows l. -/
def MemIs (w : World) (G : Nat → Nat) (s : Shp) (i b : Nat) (l : List Int) : Prop :=
  G b = 2 * i + 3 ∧ ∃ fv rv, w.heap[b]? = some (.cells #[fv, rv, wvOf i] 105 (0, 0)) ∧ FnIs w G s fv ∧ OwnInts w 0 rv l ∧ (∀ k, rv.ownBlock = some k → G k = 2 * i + 4) ∧ w.ownsRow 0 73 1 (wvOf i) (wfOf i).length (wfOf i) ∧ ∀ k, (wvOf i).ownBlock = some k → G k = 1

structure MNet (w : World) (G : Nat → Nat) (X : Nat) (mv : Value) (ms : List Nat) (ss : List Shp) (ls : Nat → List Int) (n : Nat) : Prop where
  zero : ∀ b, w.heap.size ≤ b → G b = 0
  tag : G X = 2
  net : w.heap[X]? = some (.cells #[mv, .int .i64 (n : Int)] 101 (0, 0))
  row : w.ownsRow 0 102 1 mv ss.length (ptrs ms)
  mtag : ∀ k, mv.ownBlock = some k → G k = 1
  mlen : ms.length = ss.length
  mem : ∀ (i b : Nat) (s : Shp), ss[i]? = some s → ms[i]? = some b → MemIs w G s i b (ls i)

section
variable {w w' w1 : World} {G G' : Nat → Nat} {X n i b : Nat} {mv : Value} {ms : List Nat} {ss : List Shp} {ls ls' : Nat → List Int} {s : Shp} {l l' : List Int} {fv rv rv' : Value}

theorem MemIs.keep (h : MemIs w G s i b l) (hb : ∀ k, G k = 1 ∨ G k = 2 * i + 3 ∨ G k = 2 * i + 4 → w'.heap[k]? = w.heap[k]? ∧ G' k = G k) : MemIs w' G' s i b l := by
  obtain ⟨h0, fv, rv, h1, h2, h3, h4, h5, h6⟩ := h
  have eb := hb b (.inr (.inl h0))
  exact ⟨eb.2.trans h0, fv, rv, eb.1.trans h1, h2.keep (fun k hk => ⟨(hb k (.inl hk)).1, (hb k (.inl hk)).2.trans hk⟩), row_keep h3 (fun k hk => (hb k (.inr (.inr (h4 k hk)))).1), fun k hk => ((hb k (.inr (.inr (h4 k hk)))).2).trans (h4 k hk), row_keep h5 (fun k hk => (hb k (.inl (h6 k hk))).1), fun k hk => ((hb k (.inl (h6 k hk))).2).trans (h6 k hk)⟩
theorem MNet.lt (h : MNet w G X mv ms ss ls n) {k : Nat} (hk : G k ≠ 0) : k < w.heap.size := by
  rcases Nat.lt_or_ge k w.heap.size with h1 | h1
  · exact h1
  · exact absurd (h.zero k h1) hk
/-- What is not the net's may turn. -/
theorem MNet.keep (h : MNet w G X mv ms ss ls n) (hz : w.heap.size ≤ w'.heap.size) (hb : ∀ k, G k ≠ 0 → w'.heap[k]? = w.heap[k]?) : MNet w' G X mv ms ss ls n :=
  ⟨fun k hk => h.zero k (by omega), h.tag, (hb X (by rw [h.tag]; decide)).trans h.net, row_keep h.row (fun k hk => hb k (by rw [h.mtag k hk]; decide)), h.mtag, h.mlen,
    fun i b s h1 h2 => (h.mem i b s h1 h2).keep (fun k hk => ⟨hb k (by rcases hk with hk | hk | hk <;> omega), rfl⟩)⟩
theorem MNet.up (h : MNet w G X mv ms ss ls n) (hb : Below w.heap.size w w') : MNet w' G X mv ms ss ls n := h.keep hb.size (fun k hk => hb.block k (h.lt hk))
theorem MNet.grown (h : MNet w G X mv ms ss ls n) {row : Option Nat} (hg : w.grownBy w' row) (hr : ∀ k, row = some k → G k = 0) : MNet w' G X mv ms ss ls n :=
  h.keep hg.size (fun k hk => hg.block k (h.lt hk) (fun e => hk (hr k e.symm)))
theorem MNet.congr (h : MNet w G X mv ms ss ls n) (he : ∀ i, i < ss.length → ls i = ls' i) : MNet w G X mv ms ss ls' n :=
  ⟨h.zero, h.tag, h.net, h.row, h.mtag, h.mlen, fun i b s h1 h2 => by rw [← he i (List.getElem?_eq_some_iff.1 h1).1]; exact h.mem i b s h1 h2⟩
theorem MNet.same (h : MNet w G X mv ms ss ls n) (e : w'.heap = w.heap) : MNet w' G X mv ms ss ls n := h.keep (by rw [e]; exact Nat.le_refl _) (fun k _ => by rw [e])
theorem MNet.alloc (h : MNet w G X mv ms ss ls n) (o : Obj) : MNet (w.alloc o) G X mv ms ss ls n := h.up (up_alloc w o)
theorem MNet.c0 (h : MNet w G X mv ms ss ls n) : w.cell? ⟨X, 0, none⟩ = some mv := by have := h.net; simp only [World.cell?, this]; rfl
theorem MNet.c1 (h : MNet w G X mv ms ss ls n) : w.cell? ⟨X, 1, none⟩ = some (.int .i64 (n : Int)) := by have := h.net; simp only [World.cell?, this]; rfl
theorem MNet.f0 (h : MNet w G X mv ms ss ls n) : w.frozen? ⟨X, 0, none⟩ = false := by have := h.net; simp only [World.frozen?, this]; rfl
theorem MNet.f1 (h : MNet w G X mv ms ss ls n) : w.frozen? ⟨X, 1, none⟩ = false := by have := h.net; simp only [World.frozen?, this]; rfl
theorem MNet.form (h : MNet w G X mv ms ss ls n) : ∃ a c, mv = .slice a ss.length c ∧ (ss ≠ [] → ∃ g, a = some ⟨g, 0, none⟩) := by
  rcases Joins.ownsRow_forms h.row with ⟨rfl, h0⟩ | ⟨g, cap, rfl⟩
  · exact ⟨none, 0, by rw [h0], fun hn => absurd (List.length_eq_zero_iff.1 h0) hn⟩
  · exact ⟨some ⟨g, 0, none⟩, cap, rfl, fun _ => ⟨g, rfl⟩⟩
/-- The pointer number i. -/
theorem MNet.ptr {g c m : Nat} (h : MNet w G X (.slice (some ⟨g, 0, none⟩) m c) ms ss ls n) (hm : ms[i]? = some b) : w.cell? ⟨g, i, none⟩ = some (.pointer (some ⟨b, 0, none⟩)) := by
  have hi : i < ms.length := (List.getElem?_eq_some_iff.1 hm).1
  have e : m = ss.length := by
    rcases Joins.ownsRow_forms h.row with ⟨h1, _⟩ | ⟨g', cap, h1⟩
    · cases h1
    · simp only [Value.slice.injEq] at h1; exact h1.2.1
  have hr := h.row
  rw [e] at hr
  rw [World.ownsRow.cellAt hr i (by rw [Nat.mul_one, ← h.mlen]; exact hi)]
  exact ptrs_get hm
theorem MemIs.parts (h : MemIs w G s i b l) : ∃ fv rv, w.cell? ⟨b, 0, none⟩ = some fv ∧ w.cell? ⟨b, 1, none⟩ = some rv ∧ w.cell? ⟨b, 2, none⟩ = some (wvOf i) ∧ w.frozen? ⟨b, 1, none⟩ = false ∧ FnIs w G s fv ∧ OwnInts w 0 rv l ∧ (∀ k, rv.ownBlock = some k → G k = 2 * i + 4) ∧
    w.heap[b]? = some (.cells #[fv, rv, wvOf i] 105 (0, 0)) ∧ w.ownsRow 0 73 1 (wvOf i) (wfOf i).length (wfOf i) ∧ ∀ k, (wvOf i).ownBlock = some k → G k = 1 := by
  obtain ⟨h0, fv, rv, h1, h2, h3, h4, h5, h6⟩ := h
  exact ⟨fv, rv, by simp only [World.cell?, h1]; rfl, by simp only [World.cell?, h1]; rfl, by simp only [World.cell?, h1]; rfl, by simp only [World.frozen?, h1]; rfl, h2, h3, h4, h1, h5, h6⟩

/-- The count turns. -/
theorem MNet.count (h : MNet w G X mv ms ss ls n) (m : Nat) : MNet (w.setCell ⟨X, 1, none⟩ (.int .i64 (m : Int))) G X mv ms ss ls m := by
  have hb : ∀ k, G k ≠ 2 → (w.setCell ⟨X, 1, none⟩ (.int .i64 (m : Int))).heap[k]? = w.heap[k]? := fun k hk => Below.heap_setCell _ _ _ _ (fun e => hk (by rw [e]; exact h.tag))
  refine ⟨fun k hk => h.zero k (by simpa [World.setCell] using hk), h.tag, ?_, row_keep h.row (fun k hk => hb k (by rw [h.mtag k hk]; decide)), h.mtag, h.mlen,
    fun i b s h1 h2 => (h.mem i b s h1 h2).keep (fun k hk => ⟨hb k (by rcases hk with hk | hk | hk <;> omega), rfl⟩)⟩
  rw [block_setCell h.net]
  rfl

/-- The rows of the memory number i turn: in their own block or in a new one. -/
theorem MNet.put (h : MNet w G X mv ms ss ls n) (hi : ss[i]? = some s) (hm : ms[i]? = some b) (hrb : w.heap[b]? = some (.cells #[fv, rv, wvOf i] 105 (0, 0))) (hf : FnIs w G s fv)
    (hsame : ∀ k, G k ≠ 0 → G k ≠ 2 * i + 4 → w1.heap[k]? = w.heap[k]?) (hG : ∀ k, G k ≠ 0 → G' k = G k) (hzero : ∀ k, w1.heap.size ≤ k → G' k = 0)
    (hown : OwnInts w1 0 rv' l') (htag : ∀ k, rv'.ownBlock = some k → G' k = 2 * i + 4) : MNet (w1.setCell ⟨b, 1, none⟩ rv') G' X mv ms ss (fun j => if j = i then l' else ls j) n := by
  have hil : i < ss.length := (List.getElem?_eq_some_iff.1 hi).1
  have gb : G b = 2 * i + 3 := (h.mem i b s hi hm).1
  have gbn : G' b = 2 * i + 3 := (hG b (by omega)).trans gb
  have hset : ∀ k, G k ≠ 0 → G k ≠ 2 * i + 4 → G k ≠ 2 * i + 3 → (w1.setCell ⟨b, 1, none⟩ rv').heap[k]? = w.heap[k]? := fun k h0 h1 h2 =>
    (Below.heap_setCell _ _ _ _ (fun e => h2 (by rw [e]; exact gb))).trans (hsame k h0 h1)
  have hz2 : (w1.setCell ⟨b, 1, none⟩ rv').heap.size = w1.heap.size := by simp [World.setCell]
  refine ⟨fun k hk => hzero k (by omega), (hG X (by rw [h.tag]; decide)).trans h.tag, (hset X (by rw [h.tag]; decide) (by rw [h.tag]; omega) (by rw [h.tag]; omega)).trans h.net,
    row_keep h.row (fun k hk => hset k (by rw [h.mtag k hk]; decide) (by rw [h.mtag k hk]; omega) (by rw [h.mtag k hk]; omega)), fun k hk => (hG k (by rw [h.mtag k hk]; decide)).trans (h.mtag k hk), h.mlen, ?_⟩
  intro j c t hj hc
  show MemIs _ _ _ _ _ (if j = i then l' else ls j)
  by_cases e : j = i
  · subst e
    rw [hi] at hj; obtain rfl := Option.some.inj hj
    rw [hm] at hc; obtain rfl := Option.some.inj hc
    rw [if_pos rfl]
    have hb1 : w1.heap[b]? = some (.cells #[fv, rv, wvOf j] 105 (0, 0)) := (hsame b (by omega) (by omega)).trans hrb
    obtain ⟨_, _, _, _, _, _, _, h5, h6⟩ := h.mem _ b s hi hm
    refine ⟨gbn, fv, rv', ?_, hf.keep (fun k hk => ⟨hset k (by omega) (by omega) (by omega), (hG k (by omega)).trans hk⟩), ?_, htag, row_keep h5 (fun k hk => hset k (by rw [h6 k hk]; decide) (by rw [h6 k hk]; omega) (by rw [h6 k hk]; omega)), fun k hk => (hG k (by rw [h6 k hk]; decide)).trans (h6 k hk)⟩
    · rw [block_setCell hb1]; rfl
    · refine row_keep hown (fun k hk => Below.heap_setCell _ _ _ _ (fun e => ?_))
      have := htag k hk
      rw [e] at this
      simp only at this
      omega
  · rw [if_neg e]
    exact (h.mem j c t hj hc).keep (fun k hk => ⟨hset k (by rcases hk with hk | hk | hk <;> omega) (by rcases hk with hk | hk | hk <;> omega) (by rcases hk with hk | hk | hk <;> omega), hG k (by rcases hk with hk | hk | hk <;> omega)⟩)
end

end Go.Proofs.Ytlandkindbmbfaa.Wa
