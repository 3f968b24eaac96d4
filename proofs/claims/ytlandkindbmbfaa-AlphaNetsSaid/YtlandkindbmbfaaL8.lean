/-
  The walk of the law AlphaNets: it returns true and leaves what was in memory. Conditions: the arguments are within the form's own reach.
-/
import Derived.Test.YtlandkindbmbfaaW28
namespace Go.Proofs.Ytlandkindbmbfaa
open Go.RowKit Plain
attribute [local go_sem ↓] Go.wp_at_zero Go.wp_at_succ

structure OpD where
  kind : Int
  pred : Int
  row : List Int
  nn : Int
/-- A slice value that reads as the calls ops, all below block B. -/
def OpsAt (w : World) (B : Nat) (v : Value) (ops : List OpD) : Prop :=
  ∃ (a : Option Addr) (cap : Nat), v = .slice a ops.length cap ∧ (ops = [] ∨ ∃ g off, a = some ⟨g, off, none⟩ ∧ g < B ∧
    ∀ (j : Nat) (s : OpD), ops[j]? = some s → ∃ u, w.cell? ⟨g, off + j * 4, none⟩ = some (.int .i64 s.kind) ∧ w.cell? ⟨g, off + j * 4 + 1, none⟩ = some (.int .i64 s.pred) ∧ w.cell? ⟨g, off + j * 4 + 2, none⟩ = some u ∧ w.cell? ⟨g, off + j * 4 + 3, none⟩ = some (.int .i64 s.nn) ∧ IntsAt w B u s.row ∧ Nilly u)
def OpsArg (w : World) (v : Value) (ops : List OpD) : Prop := OpsAt w w.heap.size v ops ∧ (∀ s, s ∈ ops → s.row.length ≤ 17592186044400) ∧ ops.length ≤ 4398046510975
def NetsArg (w : World) (v : Value) (ss : List Shp) : Prop := ShpsAt w w.heap.size v ss ∧ Okays ss ∧ ss.length ≤ 4398046510976 ∧ ∀ a n c, v = .slice a n c → n ≤ c
theorem OpsAt.below {w w' : World} {B : Nat} {v : Value} {ops : List OpD} (h : OpsAt w B v ops) (hb : Below B w w') : OpsAt w' B v ops := by
  obtain ⟨a, cap, rfl, h⟩ := h
  refine ⟨a, cap, rfl, ?_⟩
  rcases h with rfl | ⟨g, off, rfl, hg, hc⟩
  · exact .inl rfl
  · refine .inr ⟨g, off, rfl, hg, fun j s hj => ?_⟩
    obtain ⟨u, h1, h2, h3, h4, h5, h6⟩ := hc j s hj
    exact ⟨u, below_cells hb hg h1, below_cells hb hg h2, below_cells hb hg h3, below_cells hb hg h4, h5.below hb, h6⟩
theorem OpsAt.form {w : World} {B : Nat} {v : Value} {ops : List OpD} (h : OpsAt w B v ops) : ∃ a c, v = .slice a ops.length c ∧ (ops ≠ [] → ∃ g off, a = some ⟨g, off, none⟩) := by
  obtain ⟨a, cap, rfl, h⟩ := h
  refine ⟨a, cap, rfl, fun hn => ?_⟩
  obtain ⟨g, off, h1, _⟩ := h.resolve_left hn
  exact ⟨g, off, h1⟩
theorem OpsAt.get {w : World} {B g off c n : Nat} {ops : List OpD} (h : OpsAt w B (.slice (some ⟨g, off, none⟩) n c) ops) {i : Nat} {s : OpD} (hs : ops[i]? = some s) :
    g < B ∧ ∃ u, w.cell? ⟨g, off + i * 4, none⟩ = some (.int .i64 s.kind) ∧ w.cell? ⟨g, off + i * 4 + 1, none⟩ = some (.int .i64 s.pred) ∧ w.cell? ⟨g, off + i * 4 + 2, none⟩ = some u ∧ w.cell? ⟨g, off + i * 4 + 3, none⟩ = some (.int .i64 s.nn) ∧ IntsAt w B u s.row ∧ Nilly u := by
  obtain ⟨a, cap, e, h⟩ := h
  simp only [Value.slice.injEq] at e
  obtain ⟨rfl, rfl, rfl⟩ := e
  rcases h with rfl | ⟨g', off', h1, hg, hc⟩
  · simp at hs
  · simp only [Option.some.injEq, Addr.mk.injEq, and_true] at h1
    obtain ⟨rfl, rfl⟩ := h1
    exact ⟨hg, hc i s hs⟩
theorem IntsAt.block {w : World} {B : Nat} {u : Value} {l : List Int} (h : IntsAt w B u l) : l ≠ [] → ∀ k, u.ownBlock = some k → k < B := by
  intro hne k hk
  obtain ⟨a, cap, rfl, h⟩ := h
  obtain ⟨g, off, rfl, hg, _⟩ := h.resolve_left hne
  have : g = k := by simpa [Value.ownBlock] using hk
  omega

set_option maxRecDepth 100000 in
set_option maxHeartbeats 12800000 in
theorem nets_row (v : Value) (ss : List Shp) {w : World} (hv : NetsArg w v ss) (u : Value) (ops : List OpD) (hu : OpsArg w u ops) :
    Calls Try.prog 9 #[v, u] w fun e w' => e = .returned (.bool true) ∧ Below w.heap.size w w' := by
  obtain ⟨hv, hok, hn, hcap⟩ := hv
  obtain ⟨hu, hol, hon⟩ := hu
  obtain ⟨a, ca, rfl, ha⟩ := hv.form
  obtain ⟨b, cb, rfl, hb⟩ := hu.form
  have HV := Lib.hid hv
  have HU := Lib.hid hu
  have HBF := Lib.hid hb
  have HOK := Lib.hid hok
  have HOL := Lib.hid hol
  have HCAP := Lib.hid hcap
  have HSO := Lib.hid (shapesOf_any ss _ w hv hok hn)
  clear hv hu ha hb hok hol hcap
  go_enter Try.func9, Try.ntmps9
  go_wp2_with fail
  refine HSO.out.mono ?_
  rintro e w1 ⟨ov, rfl, hoo, hb1⟩
  obtain ⟨aO, cO, rfl, _⟩ := hoo.at.form
  have HOO := Lib.hid hoo
  have N1 := Lib.hid hb1
  have hz1 := hb1.size
  have HV1 := Lib.hid ((HV.out.below hb1).mono hz1)
  clear hoo hb1 HSO
  go_wp2_with fail
  refine (rnew_any ss _ w1 HV1.out HCAP.out HOK.out hn).mono ?_
  rintro e w2 (⟨hbad, rfl, hb2⟩ | ⟨hgood, X2, sv, rfl, hX2, hbox, hsh, hb2⟩)
  · have HBAD := Lib.hid hbad
    have N2 := Lib.hid (N1.out.trans (hb2.mono hz1))
    have HO2 := Lib.hid (HOO.out.up hb2)
    have hz2 := N2.out.size
    clear hbad hb2
    go_wp2_with fail
    refine (new_any ss _ w2 HO2.out.at HO2.out.cap HOK.out hn).mono ?_
    rintro e w3 (⟨_, rfl, hb3⟩ | ⟨hgood, _⟩)
    · have N3 := Lib.hid (N2.out.trans (hb3.mono hz2))
      have HO3 := Lib.hid (HO2.out.up hb3)
      have HV3 := Lib.hid ((HV.out.below N3.out).mono N3.out.size)
      clear hb3
      go_wp2_with fail
      refine (shapes_same ss _ _ w3 HO3.out.at HV3.out HOK.out hn).mono ?_
      rintro e w4 ⟨rfl, hb4⟩
      have N4 := Lib.hid (N3.out.trans (hb4.mono N3.out.size))
      clear hb4
      go_wp2
      go_ret
      exact ⟨rfl, N4.out⟩
    · rw [HBAD.out] at hgood; cases hgood
  · have HGOOD := Lib.hid hgood
    have N2 := Lib.hid (N1.out.trans (hb2.mono hz1))
    have HO2 := Lib.hid (HOO.out.up hb2)
    have hz2 := N2.out.size
    have HSH := Lib.hid hsh
    have HBOX := Lib.hid hbox
    have hX2w : w.heap.size ≤ X2 := Nat.le_trans hz1 hX2
    have hx2 := lt_of_block hbox
    clear hgood hb2 hsh hbox
    go_wp2_with fail
    refine (new_any ss _ w2 HO2.out.at HO2.out.cap HOK.out hn).mono ?_
    rintro e w3 (⟨hbad, _⟩ | ⟨_, G, X, mv, ms, rfl, hnet, hb3, hG0⟩)
    · rw [HGOOD.out] at hbad; cases hbad
    · have HB3 : Hid (Both w2 X mv ms ss X2 sv [] [] w3 G (.slice none 0 0)) :=
        ⟨hnet.congr (fun i _ => (lsOf_nil ss i).symm), hG0, hx2, (hb3.block X2 hx2).trans HBOX.out, RowsZ.nil _ _ _, ⟨hb3.os, hb3.tape, hb3.output, hb3.size, fun k hk _ => hb3.block k hk⟩⟩
      have N3 := Lib.hid (N2.out.trans (hb3.mono hz2))
      have HO3 := Lib.hid (HO2.out.up hb3)
      have HV3 := Lib.hid ((HV.out.below N3.out).mono N3.out.size)
      have HVA := Lib.hid (newB_valid HGOOD.out)
      clear hnet hb3 hG0
      go_wp2_with fail
      refine (shapes_same ss _ _ w3 HO3.out.at HV3.out HOK.out hn).mono ?_
      rintro e w4 ⟨rfl, hb4⟩
      have HB4 := Lib.hid (HB3.out.up hb4)
      clear hb4
      go_wp2
      go_loopw [10] (fun k wr => ∃ (i : Nat) (rs : List Shp) (G : Nat → Nat) (rv : Value), k = .int .i64 (i : Int) ∧ i ≤ ops.length ∧ Hid (Both w2 X mv ms ss X2 sv rs rs wr G rv) ∧ rs.length ≤ i ∧ Hid (Short rs)) (fun k _ => ops.length - (intOf k).toNat)
      case atStart => exact ⟨0, [], G, _, rfl, Nat.zero_le _, HB4, Nat.zero_le _, Lib.hid (fun r hr => by cases hr)⟩
      case round =>
        obtain ⟨i, rs, G', rv, rfl, hil, HB, hrl, HST⟩ := hrel
        have NB := Lib.hid (N2.out.trans (HB.out.exc.below hX2w hz2))
        by_cases h1 : i < ops.length
        · obtain ⟨s, hs⟩ : ∃ s, ops[i]? = some s := ⟨ops[i]'h1, List.getElem?_eq_getElem h1⟩
          obtain ⟨g, off, rfl⟩ := HBF.out (fun e => by rw [e] at hs; cases hs)
          obtain ⟨hg, ux, c0, c1, c2, c3, hux, hny⟩ := OpsAt.get (HU.out.below NB.out) hs
          obtain ⟨au, cu, rfl, hau⟩ := id hux
          have hsl := HOL.out s (List.mem_of_getElem? hs)
          have i0 : (0 : Int) ≤ (i : Int) := Int.natCast_nonneg _
          have i1 : (i : Int) < (ops.length : Int) := by omega
          have HNY := Lib.hid hny
          have HUX := Lib.hid hux
          have HSTEP : Hid (Calls Try.prog 36 #[.pointer (some ⟨X, 0, none⟩), .pointer (some ⟨X2, 0, none⟩), .agg #[.int .i64 s.kind, .int .i64 s.pred, .slice au s.row.length cu, .int .i64 s.nn]] wr (StepIs w2 X mv ms ss X2 sv rs)) := by
            refine step_any HB.out HSH.out HOK.out HVA.out hn (by omega) HST.out s.kind s.pred s.row _ s.nn (HUX.out.mono NB.out.size) HNY.out (fun hne k hk => ?_) hsl
            have := HUX.out.block hne k hk
            omega
          clear hs hux hny hau hg
          go_wp2_with fail
          refine HSTEP.out.mono ?_
          rintro e w5 ⟨rfl, rs', G5, rv5, hB5, hl5, hs5⟩
          have HB5 := Lib.hid hB5
          have HS5 := Lib.hid hs5
          clear hB5 hs5
          go_wp2
          go_roundw
          case rel => exact ⟨i + 1, rs', G5, rv5, by go_num, by omega, HB5, by omega, HS5⟩
          case measure => simp only [intOf]; omega
        · have hrn : rs.length ≤ 4398046510976 := by omega
          have HB' := HB
          clear HB NB hrl
          go_wp2
          go_loopw [11] (fun k wr => ∃ (q : Int), k = .int .i64 q ∧ -1 ≤ q ∧ q ≤ (ss.length : Int) + 1 ∧ Hid (Both w2 X mv ms ss X2 sv rs rs wr G' rv)) (fun k _ => ((ss.length : Int) + 1 - intOf k).toNat)
          case atStart => exact ⟨-1, rfl, by omega, by omega, HB'⟩
          case round =>
            obtain ⟨q, rfl, hq0, hq1, HB⟩ := hrel
            by_cases h2 : q ≤ (ss.length : Int)
            · have hd : decide (q ≤ (ss.length : Int)) = true := decide_eq_true h2
              have hw : IntKind.i64.wrap (q + 1) = q + 1 := by rw [IntKind.wrap_i64]; omega
              have HS := Lib.hid (step_rows HB.out HSH.out HOK.out hrn HST.out 0 (.slice none 0 0) q)
              go_wp2_with fail
              refine HS.out.mono ?_
              rintro e w5 ⟨rfl, hB5⟩
              have HB5 := Lib.hid hB5
              clear hB5
              go_wp2
              go_roundw
              case rel => exact ⟨q + 1, by first | rfl | (simp only [hw]), by omega, by omega, HB5⟩
              case measure => simp only [intOf]; omega
            · have hd : decide (q ≤ (ss.length : Int)) = false := decide_eq_false h2
              have HL := Lib.hid HB.out.len
              have HR := Lib.hid (rlen_any HB.out)
              have NF := Lib.hid (N2.out.trans (HB.out.exc.below hX2w hz2))
              go_wp2_with fail
              refine HL.out.mono ?_
              rintro e w5 ⟨rfl, rfl⟩
              go_wp2_with fail
              refine HR.out.mono ?_
              rintro e w5 ⟨rfl, rfl⟩
              go_wp2
              go_ret
              exact ⟨ret_bool (by simp), NF.out⟩

end Go.Proofs.Ytlandkindbmbfaa
