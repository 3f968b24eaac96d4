/-
  The walk of edictref10's Net.Add: the row is copied and goes behind the others; the memories that it fits are told. Conditions: the numbers are ints, the lists within the form's own reach.
-/
import Derived.Test.YtlandkindbmbfaaK16
import Derived.Test.YtlandkindbmbfaaK15
import Derived.Deep.RegionLaw
import Derived.Deep.CutRange
namespace Go.Proofs.Ytlandkindbmbfaa
open Go.RowKit Plain
attribute [local go_sem ↓] Go.wp_at_zero Go.wp_at_succ

theorem negB_at {l : List Int} (h : negB l = false) {j : Nat} (hj : j < l.length) : ¬ at' l j < 0 := fun e => by rw [negB_yes hj e] at h; cases h

set_option maxRecDepth 100000 in
set_option maxHeartbeats 1600000 in
theorem radd_no (X2 : Nat) (p : Int) (row : List Int) (u : Value) (w : World) (hu : IntsAt w w.heap.size u row) (hr : row.length ≤ 35184372088832) (hp : p < 0 ∨ negB row = true) :
    Calls Try.prog 41 #[.pointer (some ⟨X2, 0, none⟩), .int .i64 p, u] w (TupIs [] 2 w) := by
  obtain ⟨a, c, rfl, ha⟩ := hu
  by_cases h0 : p < 0
  · clear hp ha
    go_enter Try.func41, Try.ntmps41
    go_wp2
    go_ret2
    exact ⟨_, rfl, OwnInts.nil _ _, Below.refl _ _⟩
  · have HN := Lib.hid (hp.resolve_left h0)
    have HA := Lib.hid ha
    have hd : decide (p < 0) = false := decide_eq_false h0
    clear hp ha
    go_enter Try.func41, Try.ntmps41
    go_wp2
    go_loop [8] (fun k => ∃ i : Nat, k = .int .i64 (i : Int) ∧ i ≤ row.length ∧ Hid (NotNegTo row i)) (fun k => row.length - (intOf k).toNat)
    case atStart => exact ⟨0, rfl, Nat.zero_le _, NotNegTo.start _⟩
    case round =>
      obtain ⟨i, rfl, hil, hE⟩ := hrel
      by_cases h1 : i < row.length
      · obtain ⟨g, off, rfl, hg, hc⟩ := HA.out.resolve_left (fun e => by rw [e] at h1; simp at h1)
        obtain ⟨x, hx⟩ : ∃ x, x = at' row i := ⟨_, rfl⟩
        have c0 : w.cell? ⟨g, off + i, none⟩ = some (.int .i64 x) := by rw [hx]; exact hc i h1
        have HX := Lib.hid hx
        clear hc hx hg
        by_cases h2 : x < 0
        · have hd2 : decide (x < 0) = true := decide_eq_true h2
          clear hE
          go_wp2
          go_ret2
          exact ⟨_, rfl, OwnInts.nil _ _, Below.refl _ _⟩
        · have HE := Lib.hid (hE.out.round (by rw [← HX.out]; omega))
          have hd2 : decide (x < 0) = false := decide_eq_false h2
          clear hE
          go_wp2
          go_round
          case rel => exact ⟨i + 1, by go_num, by omega, HE.out⟩
          case measure => simp only [intOf]; omega
      · exfalso
        have e : i = row.length := by omega
        have := negB_no (l := row) (by rw [← e]; exact hE.out)
        rw [HN.out] at this
        cases this

def RAddIs (wB : World) (X : Nat) (mv : Value) (ms : List Nat) (ss : List Shp) (X2 : Nat) (sv : Value) (ra rd : List Shp) (w : World) (G : Nat → Nat) (rv : Value) (r : Shp) (e : Ending) (w' : World) : Prop :=
  ∃ v rv', e = .returned (.tuple #[v, .int .i64 0]) ∧ Both wB X mv ms ss X2 sv ra (rd ++ [r]) w' G rv' ∧ Chg X2 rv w w' ∧ OwnInts w' w.heap.size v (took ss r)

theorem Chg.up {X2 : Nat} {rv : Value} {w w1 w2 : World} (h : Chg X2 rv w w1) (hb : Below w1.heap.size w1 w2) : Chg X2 rv w w2 :=
  ⟨hb.os.trans h.os, hb.tape.trans h.tape, hb.output.trans h.output, Nat.le_trans h.size hb.size, fun k hk h1 h2 => (hb.block k (Nat.lt_of_lt_of_le hk h.size)).trans (h.block k hk h1 h2)⟩

theorem IntsAt.chg {X2 : Nat} {rv u : Value} {w w1 : World} {l : List Int} (h : IntsAt w w.heap.size u l) (hc : Chg X2 rv w w1) (hub : l ≠ [] → ∀ k, u.ownBlock = some k → k ≠ X2 ∧ rv.ownBlock ≠ some k) : IntsAt w1 w1.heap.size u l := by
  obtain ⟨a, cap, rfl, h⟩ := h
  refine ⟨a, cap, rfl, ?_⟩
  by_cases hl : l = []
  · exact .inl hl
  · obtain ⟨g, off, rfl, hg, hx⟩ := h.resolve_left hl
    exact .inr ⟨g, off, rfl, Nat.lt_of_lt_of_le hg hc.size, fun j hj => (World.cell?_of_block (hc.block g hg (hub hl g rfl).1 (hub hl g rfl).2)).trans (hx j hj)⟩

section
variable {wB w : World} {G : Nat → Nat} {X X2 : Nat} {mv sv rv : Value} {ms : List Nat} {ss ra rd : List Shp}

set_option maxRecDepth 100000 in
set_option maxHeartbeats 6400000 in
theorem radd_yes (h : Both wB X mv ms ss X2 sv ra rd w G rv) (hsh : OwnShps wB (X2 + 1) sv ss) (hok : Okays ss) (hss : ss.length ≤ 4398046510976) (hn : rd.length < 4398046510976) (p : Int) (row : List Int) (u : Value) (hu : IntsAt w w.heap.size u row) (hny : Nilly u) (hub : row ≠ [] → ∀ k, u.ownBlock = some k → k ≠ X2 ∧ rv.ownBlock ≠ some k)
    (hr : row.length ≤ 17592186044400) (hp : 0 ≤ p) (hng : negB row = false) : Calls Try.prog 41 #[.pointer (some ⟨X2, 0, none⟩), .int .i64 p, u] w (RAddIs wB X mv ms ss X2 sv ra rd w G rv ⟨p, row⟩) := by
  obtain ⟨i3, qi, q0, q1, q2⟩ := info_parts Try.info3
  obtain ⟨i33, ri, r0, r1, r2⟩ := info_parts Try.info33
  obtain ⟨aR, cR, rfl, hRF⟩ := h.rows.form
  obtain ⟨aS, cS, rfl, hSF⟩ := hsh.at.form
  obtain ⟨vs, hvl, ho, hz, hi⟩ := h.rows
  obtain ⟨au, cu, rfl, ha⟩ := id hu
  have HB := Lib.hid h
  have HSH := Lib.hid hsh
  have HSF := Lib.hid hSF
  have HOK := Lib.hid hok
  have HO := Lib.hid ho
  have HZ := Lib.hid hz
  have HI := Lib.hid hi
  have HU := Lib.hid hu
  have HUB := Lib.hid hub
  have HA := Lib.hid ha
  have HNG := Lib.hid hng
  have hd : decide (p < 0) = false := decide_eq_false (by omega)
  have hBz := h.exc.size
  clear h hsh hRF hSF ho hz hi hu ha hng hok hub
  go_enter Try.func41, Try.ntmps41
  go_wp2
  go_loop [8] (fun k => ∃ i : Nat, k = .int .i64 (i : Int) ∧ i ≤ row.length) (fun k => row.length - (intOf k).toNat)
  case atStart => exact ⟨0, rfl, Nat.zero_le _⟩
  case round =>
    obtain ⟨i, rfl, hil⟩ := hrel
    by_cases h1 : i < row.length
    · obtain ⟨g, off, rfl, hg, hc⟩ := HA.out.resolve_left (fun e => by rw [e] at h1; simp at h1)
      obtain ⟨x, hx⟩ : ∃ x, x = at' row i := ⟨_, rfl⟩
      have c0 : w.cell? ⟨g, off + i, none⟩ = some (.int .i64 x) := by rw [hx]; exact hc i h1
      have hd2 : decide (x < 0) = false := decide_eq_false (by rw [hx]; exact negB_at HNG.out h1)
      clear hc hx hg
      go_wp2
      go_round
      case rel => exact ⟨i + 1, by go_num, by omega⟩
      case measure => simp only [intOf]; omega
    · go_upto_region 8 with fail
      go_cut [] from 24 (fun wx => ∃ rv', Both wB X mv ms ss X2 (.slice aS ss.length cS) ra (rd ++ [⟨p, row⟩]) wx G rv' ∧ Chg X2 (.slice aR rd.length cR) w wx)
      case first =>
        have c1 := HB.out.c1
        have b1 := HB.out.alloc (.cells #[] 3)
        have k1 := b1.c1
        rcases au with _ | ad
        · obtain ⟨e1, e2⟩ := hny _ _ rfl
          have hu0 : row = [] := List.length_eq_zero_iff.1 e1
          subst hu0
          obtain rfl := e2
          have hu1 : OwnInts (w.alloc (.cells #[] 3)) w.heap.size (.slice (some ⟨w.heap.size, 0, none⟩) 0 0) [] := World.ownsRow_made w #[] 0 (Nat.le_refl _) (by decide) rfl
          have m1 := (b1.alloc (.cells #[.int .i64 p, .slice (some ⟨w.heap.size, 0, none⟩) 0 0] 33)).c1
          have hone := one_shape p hu1
          have HU1 := Lib.hid hu1
          have B1 := Lib.hid b1
          clear b1 hu1
          go_wp2_with fail
          go_region_law
            (first
              | (refine step_append_own_none _ (by rfl) _ _ 25 (by rfl) w.heap.size 3 i3 1 Try.underlying25 qi (.slice (some ⟨w.heap.size, 0, none⟩) 0 0) 0 [] (by rfl) (by exact World.ownsRow_made w #[] 0 (Nat.le_refl _) (by decide) rfl) (by rfl) ?_)
              | (refine step_append_at _ (by rfl) _ _ 30 (by rfl) wB.heap.size 33 i33 (.agg #[.int .i64 0, .slice none 0 0]) 2 32 Try.underlying30 ri r0 r1 r2 rfl (by decide) (.slice aR rd.length cR) rd.length (flat rd vs) (by rfl) (by exact World.ownsRow.alloc (World.ownsRow.alloc HO.out (.cells #[] 3)) (.cells #[.int .i64 p, .slice (some ⟨w.heap.size, 0, none⟩) 0 0] 33)) ⟨w.heap.size + 1, 0, none⟩ 1 1 [.int .i64 p, .slice (some ⟨w.heap.size, 0, none⟩) 0 0] (by rfl) (by rfl) (by have hz1 : (w.alloc (.cells #[] 3)).heap.size = w.heap.size + 1 := (by simp); rw [← hz1]; exact World.news_of_block (cs := #[.int .i64 p, .slice (some ⟨w.heap.size, 0, none⟩) 0 0]) (t := 33) (fr := (0, 0)) (heap_alloc_new _ _)) hone (by unfold maxLen; omega) (by omega) (by simp; omega) ?_; intro v' w2 hown2 hgrow2 hnl2 hat2; obtain ⟨g', c', rfl⟩ := Joins.ownsRow_form hown2 (by omega); have hgrow : ((w.alloc (.cells #[] 3)).alloc (.cells #[.int .i64 p, .slice (some ⟨w.heap.size, 0, none⟩) 0 0] 33)).grownBy w2 (Value.slice aR rd.length cR).ownBlock := ⟨hgrow2.os, hgrow2.tape, hgrow2.output, hgrow2.size, hgrow2.block⟩; have HX6 := (B1.out.alloc (.cells #[.int .i64 p, .slice (some ⟨w.heap.size, 0, none⟩) 0 0] 33)).atGrown hgrow; have x6 := HX6.1; have f6 := HX6.2; have HP := Lib.hid (HB.out.push (r := ⟨p, []⟩) hvl HO.out HZ.out HI.out ((up_alloc w (.cells #[] 3)).alloc (by simp) (.cells #[.int .i64 p, .slice (some ⟨w.heap.size, 0, none⟩) 0 0] 33)) (World.ownsRow.alloc HU1.out _) hgrow hown2 hat2)))
          all_goals
            go_wp2
            go_meet
            case rel => exact ⟨_, HP.out⟩
        · have HNW := Lib.hid ((HU.out.alloc (Nat.le_refl _) (.cells #[] 3)).news)
          clear b1
          go_wp2_with fail
          go_region_law
            (first
              | (refine step_append_own _ (by rfl) _ _ 25 (by rfl) w.heap.size 3 i3 (.int .i64 0) 1 8 Try.underlying25 qi q0 q1 q2 rfl (by decide) (.slice (some ⟨w.heap.size, 0, none⟩) 0 0) 0 [] (by rfl) (by exact World.ownsRow_made w #[] 0 (Nat.le_refl _) (by decide) rfl) ad row.length cu (lits row) (by rfl) (by rw [lits_length, Nat.mul_one]) (by exact HNW.out) (lits_one _) (by unfold maxLen; omega) (by omega) (by simp) ?_; intro u1 w1 hown1 hgrow1 hnil1; obtain ⟨gu, cu1, rfl⟩ := form_of hown1 (fun e => by have := (hnil1.1 e).1; simp at this); simp only [Nat.zero_add, List.nil_append] at hown1 ⊢; have hgrow1' : (w.alloc (.cells #[] 3)).grownBy w1 (some w.heap.size) := ⟨hgrow1.os, hgrow1.tape, hgrow1.output, hgrow1.size, hgrow1.block⟩; have hb1 : Below w.heap.size w w1 := (up_alloc w (.cells #[] 3)).grown hgrow1' (by simp) (fun k hk => by simp at hk; omega); have hz1 := hb1.size; have B1 := Lib.hid (HB.out.up hb1); have k1 := B1.out.c1; have HU1 : Hid (OwnInts w1 w.heap.size (.slice (some ⟨gu, 0, none⟩) row.length cu1) row) := hown1; have hone := one_shape p HU1.out; have m1 := (B1.out.alloc (.cells #[.int .i64 p, .slice (some ⟨gu, 0, none⟩) row.length cu1] 33)).c1)
              | (refine step_append_at _ (by rfl) _ _ 30 (by rfl) wB.heap.size 33 i33 (.agg #[.int .i64 0, .slice none 0 0]) 2 32 Try.underlying30 ri r0 r1 r2 rfl (by decide) (.slice aR rd.length cR) rd.length (flat rd vs) (by rfl) (by exact World.ownsRow.alloc (row_keep HO.out (fun k hk => hb1.block k (World.ownsRow.lt HO.out k hk).2)) (.cells #[.int .i64 p, .slice (some ⟨gu, 0, none⟩) row.length cu1] 33)) ⟨w1.heap.size, 0, none⟩ 1 1 [.int .i64 p, .slice (some ⟨gu, 0, none⟩) row.length cu1] (by rfl) (by rfl) (World.news_of_block (cs := #[.int .i64 p, .slice (some ⟨gu, 0, none⟩) row.length cu1]) (t := 33) (fr := (0, 0)) (heap_alloc_new w1 _)) hone (by unfold maxLen; omega) (by omega) (by simp; omega) ?_; intro v' w2 hown2 hgrow2 hnl2 hat2; obtain ⟨g', c', rfl⟩ := Joins.ownsRow_form hown2 (by omega); have hgrow : (w1.alloc (.cells #[.int .i64 p, .slice (some ⟨gu, 0, none⟩) row.length cu1] 33)).grownBy w2 (Value.slice aR rd.length cR).ownBlock := ⟨hgrow2.os, hgrow2.tape, hgrow2.output, hgrow2.size, hgrow2.block⟩; have HX6 := (B1.out.alloc (.cells #[.int .i64 p, .slice (some ⟨gu, 0, none⟩) row.length cu1] 33)).atGrown hgrow; have x6 := HX6.1; have f6 := HX6.2; have HP := Lib.hid (HB.out.push (r := ⟨p, row⟩) hvl HO.out HZ.out HI.out (hb1.alloc hz1 (.cells #[.int .i64 p, .slice (some ⟨gu, 0, none⟩) row.length cu1] 33)) (World.ownsRow.alloc HU1.out _) hgrow hown2 hat2)))
          all_goals
            go_wp2
            go_meet
            case rel => exact ⟨_, HP.out⟩
      case rest =>
        obtain ⟨rv', hb3, hc3⟩ := hcut
        obtain ⟨w3, hw3⟩ : ∃ w3, w3 = wc := ⟨_, rfl⟩
        rw [← hw3] at hb3 hc3 ⊢
        clear hw3
        have HB3 := Lib.hid hb3
        have HC3 := Lib.hid hc3
        have HSW := Lib.hid (hb3.shps HSH.out)
        have HU3 := Lib.hid (HU.out.chg hc3 HUB.out)
        have h3z := hc3.size
        clear hb3 hc3 hny
        go_wp2
        go_loopw [9, 10] (fun q k wr => ∃ (o : Value) (i : Nat), o = q ∧ k = .int .i64 (i : Int) ∧ i ≤ ss.length ∧ Hid (Below w3.heap.size w3 wr) ∧ OwnInts wr w3.heap.size o (idx (fitF p row) (ss.take i))) (fun _ k _ => ss.length - (intOf k).toNat)
        case atStart => exact ⟨_, 0, rfl, rfl, Nat.zero_le _, Lib.hid (Below.refl _ _), OwnInts.nil _ _⟩
        case round =>
          obtain ⟨v, i, rfl, rfl, hil2, NX, hown⟩ := hrel
          have hz3 := NX.out.size
          have c0 := (HB3.out.up NX.out).c0
          have HW := Lib.hid hown
          clear hown
          by_cases h2 : i < ss.length
          · obtain ⟨s, hs⟩ : ∃ s, ss[i]? = some s := ⟨ss[i]'h2, List.getElem?_eq_getElem h2⟩
            obtain ⟨gS, oS, rfl⟩ := HSF.out (ne_of_lt_len h2)
            obtain ⟨ax, cx, ex⟩ := ShpsAt.el (j := i) ((HSW.out.up NX.out).at) (Nat.le_refl _) hs
            have EX := Lib.hid ex
            have hsok := HOK.out s (List.mem_of_getElem? hs)
            have HUW := Lib.hid ((HU3.out.below NX.out).mono hz3)
            have d0 := EX.out.c0
            have d1 := EX.out.c1
            have hnl : (idx (fitF p row) (ss.take i)).length ≤ i := Nat.le_trans (idx_length _) (by rw [List.length_take]; omega)
            have HNX := Lib.hid (idx_next (f := fitF p row) hs)
            obtain ⟨acc, hacc⟩ : ∃ acc, acc = idx (fitF p row) (ss.take i) := ⟨_, rfl⟩
            rw [← hacc] at HW hnl HNX
            clear hacc hs ex
            go_wp2_with fail
            refine (refFits_any s _ p row _ wr ⟨_, rfl, EX.out.ints⟩ hsok.1 HUW.out (by omega)).mono ?_
            rintro e w4 ⟨rfl, hb4⟩
            have NX4 := Lib.hid (NX.out.trans (hb4.mono hz3))
            have HW4 := Lib.hid (HW.out.up hb4)
            have h4z := NX4.out.size
            clear hb4 c0 d0 d1
            cases hfb : fitsB s p row with
            | false =>
              have HN : Hid (idx (fitF p row) (ss.take (i + 1)) = acc) := by
                have := HNX.out
                rw [if_neg (show ¬ fitF p row s = true by show ¬ fitsB s p row = true; rw [hfb]; decide), List.append_nil] at this
                exact this
              clear hfb
              go_wp2
              go_roundw
              case rel => exact ⟨_, i + 1, rfl, by go_num, by omega, NX4, by rw [HN.out]; exact HW4.out⟩
              case measure => simp only [intOf]; omega
            | true =>
              have HN : Hid (idx (fitF p row) (ss.take (i + 1)) = acc ++ [(i : Int)]) := by
                have := HNX.out
                rw [if_pos (show fitF p row s = true from hfb)] at this
                exact this
              clear hfb
              go_wp2_with (at_builtin; refine wpList_append_own _ rfl _ _ 25 rfl w3.heap.size 3 i3 (.int .i64 0) 1 8 Try.underlying25 qi q0 q1 q2 rfl (by decide) v acc.length (lits acc) rfl (World.ownsRow.alloc HW4.out (.cells #[.int .i64 (i : Int)] 3)) ⟨w4.heap.size, 0, none⟩ 1 1 [.int .i64 (i : Int)] rfl rfl (cell_one_new _ _ _) (one_i64 _) (by unfold maxLen; omega) (by omega) (by simp; omega) ?_; intro v' w5 hown' hgrow hnl2)
              have HR1 : Hid (OwnInts w5 w3.heap.size v' (acc ++ [(i : Int)])) := by
                unfold OwnInts Hid; rw [lits_snoc, List.length_append, List.length_singleton]; exact hown'
              have NB := Lib.hid ((NX4.out.alloc h4z _).grown hgrow (by simp; omega) (fun k hk => (HW4.out.lt k hk).1))
              clear hown' hgrow hnl2
              go_roundw
              case rel => exact ⟨_, i + 1, rfl, by go_num, by omega, NB, by rw [HN.out]; exact HR1.out⟩
              case measure => simp only [intOf]; omega
          · have e : i = ss.length := by omega
            have HF : Hid (OwnInts wr w.heap.size v (took ss ⟨p, row⟩)) := by
              have := HW.out
              rw [e, List.take_length] at this
              exact this.mono h3z
            clear e
            go_wp2
            go_ret2
            exact ⟨_, _, rfl, HB3.out.up NX.out, HC3.out.up NX.out, HF.out⟩
end

end Go.Proofs.Ytlandkindbmbfaa
