/-
  The walks of edictref10's Net.Len, Rows and Undo. Conditions: the numbers are ints, the lists within the form's own reach.
-/
import Derived.Test.YtlandkindbmbfaaW24
namespace Go.Proofs.Ytlandkindbmbfaa
open Go.RowKit Plain
attribute [local go_sem ↓] Go.wp_at_zero Go.wp_at_succ

section
variable {wB w : World} {G : Nat → Nat} {X X2 : Nat} {mv sv rv : Value} {ms : List Nat} {ss ra rd : List Shp}

theorem flat_one : ∀ (l : List Shp) (vs : List Value), (∀ (j : Nat) (s : Shp) (x : Value), l[j]? = some s → vs[j]? = some x → x.oneCell' = true) → ∀ x ∈ flat l vs, x.oneCell' = true
  | [], _, _ => by intro x hx; simp [flat] at hx
  | _ :: _, [], _ => by intro x hx; simp [flat] at hx
  | s :: l, y :: vs, h => by
    intro x hx
    simp only [flat, List.mem_cons] at hx
    rcases hx with rfl | rfl | hx
    · rfl
    · exact h 0 s x rfl rfl
    · exact flat_one l vs (fun j t z h1 h2 => h (j + 1) t z (by simpa using h1) (by simpa using h2)) x hx

theorem rlen_any (h : Both wB X mv ms ss X2 sv ra rd w G rv) : Calls Try.prog 38 #[.pointer (some ⟨X2, 0, none⟩)] w fun e w' => e = .returned (.int .i64 (rd.length : Int)) ∧ w = w' := by
  obtain ⟨aR, cR, rfl, _⟩ := h.rows.form
  have c1 := h.c1
  clear h
  go_enter Try.func38, Try.ntmps38
  go_wp2
  go_ret
  exact ⟨rfl, rfl⟩

set_option maxRecDepth 100000 in
theorem rrows_no (h : Both wB X mv ms ss X2 sv ra rd w G rv) (hsh : OwnShps wB (X2 + 1) sv ss) (m : Int) (hm : m < 0 ∨ (ss.length : Int) ≤ m) : Calls Try.prog 56 #[.pointer (some ⟨X2, 0, none⟩), .int .i64 m] w (TupIs [] 2 w) := by
  obtain ⟨aS, cS, rfl, _⟩ := hsh.at.form
  have c0 := h.c0
  clear h hsh
  by_cases h0 : m < 0
  · have hd : decide (m < 0) = true := decide_eq_true h0
    clear hm
    go_enter Try.func56, Try.ntmps56
    go_wp2
    go_ret2
    exact ⟨_, rfl, OwnInts.nil _ _, Below.refl _ _⟩
  · have hd : decide (m < 0) = false := decide_eq_false h0
    have hm2 : (ss.length : Int) ≤ m := hm.resolve_left h0
    have hd2 : decide (m ≥ (ss.length : Int)) = true := decide_eq_true hm2
    clear hm
    go_enter Try.func56, Try.ntmps56
    go_wp2
    go_ret2
    exact ⟨_, rfl, OwnInts.nil _ _, Below.refl _ _⟩

set_option maxRecDepth 100000 in
set_option maxHeartbeats 6400000 in
theorem rrows_yes (h : Both wB X mv ms ss X2 sv ra rd w G rv) (hsh : OwnShps wB (X2 + 1) sv ss) (hok : Okays ss) (hn : rd.length ≤ 4398046510976) (hrl : ∀ r, r ∈ rd → r.cells.length ≤ 17592186044400) {m : Nat} {s : Shp} (hs : ss[m]? = some s) :
    Calls Try.prog 56 #[.pointer (some ⟨X2, 0, none⟩), .int .i64 (m : Int)] w (TupIs (nums s rd) 0 w) := by
  obtain ⟨i3, qi, q0, q1, q2⟩ := info_parts Try.info3
  obtain ⟨aR, cR, rfl, hRF⟩ := h.rows.form
  obtain ⟨aS, cS, rfl, hSF⟩ := hsh.at.form
  have hml : m < ss.length := (List.getElem?_eq_some_iff.1 hs).1
  obtain ⟨gS, oS, rfl⟩ := hSF (ne_of_lt_len hml)
  have HB := Lib.hid h
  have HSW := Lib.hid (h.shps hsh)
  have HRW := Lib.hid h.rows.own
  have HRF := Lib.hid hRF
  have HRL := Lib.hid hrl
  have HSI := Lib.hid hs
  have hsok := hok s (List.mem_of_getElem? hs)
  have c0 := h.c0
  have hd : decide ((m : Int) < 0) = false := decide_eq_false (by omega)
  have hd2 : decide (ss.length ≤ m) = false := decide_eq_false (by omega)
  have m0 : (0 : Int) ≤ (m : Int) := Int.natCast_nonneg _
  have m1 : (m : Int) < (ss.length : Int) := by omega
  clear h hsh hRF hSF hrl hs hok
  go_enter Try.func56, Try.ntmps56
  go_wp2
  go_loopw [6, 7] (fun q k wr => ∃ (o : Value) (i : Nat), o = q ∧ k = .int .i64 (i : Int) ∧ i ≤ rd.length ∧ Hid (Below w.heap.size w wr) ∧ OwnInts wr w.heap.size o (nums s (rd.take i))) (fun _ k _ => rd.length - (intOf k).toNat)
  case atStart => exact ⟨_, 0, rfl, rfl, Nat.zero_le _, Lib.hid (Below.refl _ _), OwnInts.nil _ _⟩
  case round =>
    obtain ⟨v, i, rfl, rfl, hil, NX, hown⟩ := hrel
    have hz := NX.out.size
    have c0 := (HB.out.up NX.out).c0
    have c1 := (HB.out.up NX.out).c1
    have HW := Lib.hid hown
    clear hown
    by_cases h4 : i < rd.length
    · obtain ⟨r, hr⟩ : ∃ r, rd[i]? = some r := ⟨rd[i]'h4, List.getElem?_eq_getElem h4⟩
      obtain ⟨gR, rfl⟩ := HRF.out (fun e => by rw [e] at hr; cases hr)
      obtain ⟨au, cu, hel, _⟩ := OwnRws.el (G := fun _ => 0) HRW.out (fun _ _ => by decide) hr
      have E8 := Lib.hid (hel wr (Turned.of_below NX.out))
      obtain ⟨ax, cx, ex⟩ := ShpsAt.el (j := m) ((HSW.out.up NX.out).at) (Nat.le_refl _) HSI.out
      have EX := Lib.hid ex
      have hrl := HRL.out r (List.mem_of_getElem? hr)
      have HNX := Lib.hid (idx_next (f := fitR s) hr)
      obtain ⟨fb, hfb⟩ : ∃ fb, fb = fitsB s r.pred r.cells := ⟨_, rfl⟩
      have HFB := Lib.hid hfb
      have hnl : (nums s (rd.take i)).length ≤ i := Nat.le_trans (idx_length _) (by rw [List.length_take]; omega)
      obtain ⟨acc, hacc⟩ : ∃ acc, acc = nums s (rd.take i) := ⟨_, rfl⟩
      rw [← hacc] at HW hnl
      have HAC := Lib.hid hacc
      have HX2 := Lib.hid (HB.out.up NX.out).x2lt
      have d0 := EX.out.c0
      have d1 := EX.out.c1
      have d2 := E8.out.c0
      have d3 := E8.out.c1
      have j0 : (0 : Int) ≤ (i : Int) := Int.natCast_nonneg _
      have j1 : (i : Int) < (rd.length : Int) := by omega
      clear hfb hel ex hr hacc
      go_wp2_with fail
      go_region_held3 (fun w' => w'.cell? ⟨X2, 0, none⟩ = some (.slice (some ⟨gS, oS, none⟩) ss.length cS) ∧ w'.cell? ⟨X2, 1, none⟩ = some (.slice (some ⟨gR, 0, none⟩) rd.length cR) ∧ w'.cell? ⟨gS, oS + m * 2, none⟩ = some (.int .i64 s.pred) ∧ w'.cell? ⟨gS, oS + m * 2 + 1, none⟩ = some (.slice ax s.cells.length cx) ∧ w'.cell? ⟨gR, i * 2, none⟩ = some (.int .i64 r.pred) ∧ w'.cell? ⟨gR, i * 2 + 1, none⟩ = some (.slice au r.cells.length cu))
        (first | exact ⟨c0, c1, d0, d1, d2, d3⟩ | exact ⟨k0, k1, m0, m1, m2, m3⟩)
        (first
          | (go_at_call 20; refine (refFits_any s _ r.pred r.cells _ _ ⟨_, rfl, by exact EX.out.ints⟩ hsok.1 (by exact E8.out.ints) (by omega)).mono ?_; rintro e w8 ⟨rfl, hb8'⟩; rw [← HFB.out]; have hb8 : Below wr.heap.size wr w8 := ⟨hb8'.os, hb8'.tape, hb8'.output, hb8'.size, hb8'.block⟩; clear hb8'; have X8 := Lib.hid (EX.out.below hb8); have R8 := Lib.hid (E8.out.below hb8); have k0 := below_cells hb8 HX2.out c0; have k1 := below_cells hb8 HX2.out c1; have m0 := X8.out.c0; have m1 := X8.out.c1; have m2 := R8.out.c0; have m3 := R8.out.c1))
      have NY8 := Lib.hid (NX.out.trans (hb8.mono hz))
      have HW8 := Lib.hid (HW.out.up hb8)
      have hy8 := NY8.out.size
      clear d0 d1 d2 d3 m0 m1 m2 m3 k0 k1 c0 c1
      cases fb with
      | false =>
        have HN : Hid (nums s (rd.take (i + 1)) = acc) := by
          have := HNX.out
          rw [if_neg (show ¬ fitR s r = true by show ¬ fitsB s r.pred r.cells = true; rw [← HFB.out]; decide), List.append_nil] at this
          rw [HAC.out]; exact this
        go_wp2
        go_roundw
        case rel => exact ⟨_, i + 1, rfl, by go_num, by omega, NY8, by rw [HN.out]; exact HW8.out⟩
        case measure => simp only [intOf]; omega
      | true =>
        have HN : Hid (nums s (rd.take (i + 1)) = acc ++ [(i : Int)]) := by
          have := HNX.out
          rw [if_pos (show fitR s r = true from HFB.out.symm)] at this
          rw [HAC.out]; exact this
        go_wp2_with (at_builtin; refine wpList_append_own _ rfl _ _ 25 rfl w.heap.size 3 i3 (.int .i64 0) 1 8 Try.underlying25 qi q0 q1 q2 rfl (by decide) v acc.length (lits acc) rfl (World.ownsRow.alloc HW8.out (.cells #[.int .i64 (i : Int)] 3)) ⟨w8.heap.size, 0, none⟩ 1 1 [.int .i64 (i : Int)] rfl rfl (cell_one_new _ _ _) (one_i64 _) (by unfold maxLen; omega) (by omega) (by simp; omega) ?_; intro v' w11 hown' hgrow hnl2)
        have HR1 : Hid (OwnInts w11 w.heap.size v' (acc ++ [(i : Int)])) := by
          unfold OwnInts Hid; rw [lits_snoc, List.length_append, List.length_singleton]; exact hown'
        have NB := Lib.hid ((NY8.out.alloc hy8 _).grown hgrow (by simp; omega) (fun k hk => (HW8.out.lt k hk).1))
        clear hown' hgrow hnl2
        go_roundw
        case rel => exact ⟨_, i + 1, rfl, by go_num, by omega, NB, by rw [HN.out]; exact HR1.out⟩
        case measure => simp only [intOf]; omega
    · have e : i = rd.length := by omega
      have HF : Hid (OwnInts wr w.heap.size v (nums s rd)) := by
        have := HW.out
        rw [e, List.take_length] at this
        exact this
      clear e
      go_wp2
      go_ret2
      exact ⟨_, rfl, HF.out, NX.out⟩

set_option maxRecDepth 100000 in
theorem rundo_no (h : Both wB X mv ms ss X2 sv ra rd w G rv) (m : Int) (hm : m < 0 ∨ (rd.length : Int) < m) : Calls Try.prog 57 #[.pointer (some ⟨X2, 0, none⟩), .int .i64 m] w fun e w' => e = .returned (.int .i64 2) ∧ w = w' := by
  obtain ⟨aR, cR, rfl, _⟩ := h.rows.form
  have c1 := h.c1
  clear h
  by_cases h0 : m < 0
  · have hd : decide (m < 0) = true := decide_eq_true h0
    clear hm
    go_enter Try.func57, Try.ntmps57
    go_wp2
    go_ret
    exact ⟨rfl, rfl⟩
  · have hd : decide (m < 0) = false := decide_eq_false h0
    have hm2 : (rd.length : Int) < m := hm.resolve_left h0
    have hd2 : decide (m > (rd.length : Int)) = true := decide_eq_true hm2
    clear hm
    go_enter Try.func57, Try.ntmps57
    go_wp2
    go_ret
    exact ⟨rfl, rfl⟩

def RUndoIs (wB : World) (X : Nat) (mv : Value) (ms : List Nat) (ss : List Shp) (X2 : Nat) (sv : Value) (ra rd : List Shp) (w : World) (G : Nat → Nat) (rv : Value) (m : Nat) (e : Ending) (w' : World) : Prop :=
  ∃ rv', e = .returned (.int .i64 0) ∧ Both wB X mv ms ss X2 sv ra (rd.take m) w' G rv' ∧ Chg X2 rv w w'

set_option maxRecDepth 100000 in
set_option maxHeartbeats 1600000 in
theorem rundo_yes (h : Both wB X mv ms ss X2 sv ra rd w G rv) (hn : rd.length ≤ 4398046510976) {m : Nat} (hm : m ≤ rd.length) : Calls Try.prog 57 #[.pointer (some ⟨X2, 0, none⟩), .int .i64 (m : Int)] w (RUndoIs wB X mv ms ss X2 sv ra rd w G rv m) := by
  obtain ⟨i33, ri, r0, r1, r2⟩ := info_parts Try.info33
  obtain ⟨aR, cR, rfl, hRF⟩ := h.rows.form
  obtain ⟨vs, hvl, ho, hz, hi⟩ := h.rows
  have HB := Lib.hid h
  have HO := Lib.hid ho
  have HI := Lib.hid hi
  have c1 := h.c1
  have k1 := (h.alloc (.cells #[] 33)).c1
  have hd : decide ((m : Int) < 0) = false := decide_eq_false (by omega)
  have hd2 : decide ((m : Int) > (rd.length : Int)) = false := decide_eq_false (by omega)
  have hcr : rd.length ≤ cR := by
    rcases ho.2 with ⟨h1, h2⟩ | ⟨g, cap, cur, h1, _, _, h2, _⟩
    · simp only [Value.slice.injEq] at h1; omega
    · simp only [Value.slice.injEq] at h1; omega
  have hmc : (m : Int) ≤ (cR : Int) := by omega
  clear h ho hi hz
  rcases aR with _ | ad
  · have h0 : rd.length = 0 := by
      rcases Nat.eq_zero_or_pos rd.length with h1 | h1
      · exact h1
      · obtain ⟨g, hg⟩ := hRF (fun e => by rw [e] at h1; simp at h1)
        cases hg
    have hc0 : cR = 0 := by
      rcases HO.out.2 with ⟨h1, _⟩ | ⟨g, cap, cur, h1, _⟩
      · simp only [Value.slice.injEq] at h1; exact h1.2.2
      · simp at h1
    have hm0 : m = 0 := by omega
    subst hm0 hc0
    have kf := (HB.out.alloc (.cells #[] 33)).f1
    have HC := Lib.hid (HB.out.cut (m := 0) (w2 := w.alloc (.cells #[] 33)) (rv' := .slice (some ⟨w.heap.size, 0, none⟩) 0 0) (Nat.zero_le _) hvl HI.out (up_alloc _ _) (by rw [Nat.zero_mul, List.take_zero]; exact World.ownsRow_made w #[] 0 (Nat.le_refl _) (by decide) rfl))
    go_enter Try.func57, Try.ntmps57
    go_wp2
    go_ret
    exact ⟨_, rfl, HC.out⟩
  · obtain ⟨g, hg⟩ : ∃ g, ad = ⟨g, 0, none⟩ := by
      rcases Joins.ownsRow_forms HO.out with ⟨h1, _⟩ | ⟨g, cap, h1⟩
      · simp at h1
      · simp only [Value.slice.injEq, Option.some.injEq] at h1; exact ⟨g, h1.1⟩
    subst hg
    have HNW : Hid (∀ j u, ((flat rd vs).take (m * 2))[j]? = some u → (w.alloc (.cells #[] 33)).cell? ((⟨g, 0, none⟩ : Addr).add j) = some u) := fun j u hj => by
      refine (World.ownsRow.alloc HO.out (.cells #[] 33)).cells (g := g) rfl j u ?_
      rw [List.getElem?_take] at hj
      split at hj
      · exact hj
      · cases hj
    have HONE : Hid (∀ u ∈ (flat rd vs).take (m * 2), u.oneCell' = true) := fun u hu => flat_one rd vs (fun j s x h1 h2 => by
      obtain ⟨a, n, c, rfl⟩ := (HI.out j s x h1 h2).1.form
      rfl) u (List.mem_of_mem_take hu)
    have hln : ((flat rd vs).take (m * 2)).length = m * 2 := by rw [List.length_take, flat_length _ _ hvl]; omega
    have hk1 := (HB.out.alloc (.cells #[] 33))
    have HK := Lib.hid hk1
    clear hk1
    obtain ⟨fl, hfl⟩ : ∃ fl, fl = (flat rd vs).take (m * 2) := ⟨_, rfl⟩
    rw [← hfl] at HNW HONE hln
    have HFL := Lib.hid hfl
    clear hfl
    go_enter Try.func57, Try.ntmps57
    go_wp2_with (at_builtin; refine wpList_append_own _ rfl _ _ 30 rfl w.heap.size 33 i33 (.agg #[.int .i64 0, .slice none 0 0]) 2 32 Try.underlying30 ri r0 r1 r2 rfl (by decide) (.slice (some ⟨w.heap.size, 0, none⟩) 0 0) 0 [] rfl (World.ownsRow_made w #[] 0 (Nat.le_refl _) (by decide) rfl) ⟨g, 0, none⟩ m cR fl rfl hln HNW.out HONE.out (by unfold maxLen; omega) (by omega) (by simp) ?_; intro v' w1 hown' hgrow hnl; obtain ⟨g', c', rfl⟩ := form_of hown' (fun e => by have := (hnl.1 e).1; simp at this); simp only [Nat.zero_add, List.nil_append] at hown' ⊢; have hgrow' : (w.alloc (.cells #[] 33)).grownBy w1 (some w.heap.size) := ⟨hgrow.os, hgrow.tape, hgrow.output, hgrow.size, hgrow.block⟩; have hb1 : Below w.heap.size w w1 := (up_alloc w (.cells #[] 33)).grown hgrow' (by simp) (fun k hk => by simp at hk; omega); have k2 := (HB.out.up hb1).c1; have kf := (HB.out.up hb1).f1; have HC := Lib.hid (HB.out.cut (m := m) (w2 := w1) (rv' := .slice (some ⟨g', 0, none⟩) m c') hm hvl HI.out hb1 (by rw [← HFL.out]; exact hown')))
    go_ret
    exact ⟨_, rfl, HC.out⟩
end

end Go.Proofs.Ytlandkindbmbfaa
