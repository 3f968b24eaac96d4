/-
  The walk of the law AlphaRenamed: it returns true and leaves what was in memory. Conditions: the arguments are within the form's own reach.
-/
import Derived.Test.YtlandkindbmbfaaK6
import Derived.Deep.RegionLaw
namespace Go.Proofs.Ytlandkindbmbfaa
open Go.RowKit Plain
attribute [local go_sem ↓] Go.wp_at_zero Go.wp_at_succ

def ShEl (w : World) (g o o1 : Nat) (s : Shp) (u : Value) : Prop := w.cell? ⟨g, o, none⟩ = some (.int .i64 s.pred) ∧ w.cell? ⟨g, o1, none⟩ = some u ∧ IntsAt w w.heap.size u s.cells ∧ g < w.heap.size
theorem ShEl.below {w w' : World} {g o o1 : Nat} {s : Shp} {u : Value} (h : ShEl w g o o1 s u) (hb : Below w.heap.size w w') : ShEl w' g o o1 s u :=
  ⟨below_cells hb h.2.2.2 h.1, below_cells hb h.2.2.2 h.2.1, (h.2.2.1.below hb).mono hb.size, Nat.lt_of_lt_of_le h.2.2.2 hb.size⟩
theorem lits_form {w : World} {B : Nat} {v : Value} {l : List Slt} (h : w.ownsRow B 53 2 v l.length (slits l)) : ∃ a c, v = .slice a l.length c ∧ (l ≠ [] → ∃ g off, a = some ⟨g, off, none⟩) := SlotsAt.form (OwnSlots.at (l := l) h)

theorem apart_rows {v2 v : Value} {Q R : Nat} (h2 : ∀ k, v2.ownBlock = some k → k < Q) (h : ∀ k, v.ownBlock = some k → R ≤ k) (hQR : Q < R) : v2.ownBlock = none ∨ v2.ownBlock ≠ v.ownBlock := by
  rcases e : v2.ownBlock with _ | k
  · exact .inl rfl
  · right; intro e2; have := h k e2.symm; have := h2 k e; omega

set_option maxRecDepth 100000 in
set_option maxHeartbeats 32000000 in
theorem renamed_row (v0 : Value) (x0 : Int × List Slt) {w : World} (h0 : PatArg w v0 x0) (x : Int) :
    Calls Try.prog 8 #[v0, .int .i64 x] w fun e w' => e = .returned (.bool true) ∧ Below w.heap.size w w' := by
  obtain ⟨p, l⟩ := x0
  obtain ⟨u0, rfl, hs0, hi0, hn0, hp0⟩ := h0
  simp only at hs0 hi0 hn0 hp0 ⊢
  obtain ⟨i53, pi, p0, p1, p2⟩ := info_parts Try.info53
  obtain ⟨au0, cu0, rfl, _⟩ := hs0.form
  obtain ⟨W0, hW0⟩ : ∃ W0, W0 = w.alloc (.cells #[.int .i64 p, .slice au0 l.length cu0] 39) := ⟨_, rfl⟩
  have PB := Lib.hid (show PatBox W0 w.heap.size p l (.slice au0 l.length cu0) by rw [hW0]; exact PatBox.made hs0)
  have NW := Lib.hid (show Below w.heap.size w W0 by rw [hW0]; exact up_alloc w _)
  have hwW0 := NW.out.size
  obtain ⟨P, hP⟩ : ∃ P, P = prP p := ⟨_, rfl⟩
  obtain ⟨ql, hql⟩ : ∃ ql, ql = l.map pf := ⟨_, rfl⟩
  obtain ⟨rl, hrl⟩ : ∃ rl, rl = ql.map (rnm (xr x)) := ⟨_, rfl⟩
  have hPb : 0 ≤ P ∧ P ≤ 9223372036854775807 := by rw [hP]; exact prP_ok hp0
  have qok : ql.all okSlt = true := by rw [hql]; exact pf_ok l
  have qi : I64l ql := by rw [hql]; exact pf_i64 hi0
  have qn : ql.length ≤ 8796093021952 := by rw [hql, List.length_map]; exact hn0
  have hrn : rl.length = ql.length := by rw [hrl, List.length_map]
  have rok : rl.all okSlt = true := by
    rw [hrl, List.all_map, List.all_eq_true]
    intro a ha
    have := List.all_eq_true.1 qok a ha
    obtain ⟨b, n⟩ := a
    cases b
    · exact this
    · rfl
  have ri : I64l rl := by
    intro a ha
    rw [hrl] at ha
    obtain ⟨b, hb, rfl⟩ := List.mem_map.1 ha
    have := qi b hb
    obtain ⟨c, n⟩ := b
    cases c
    · exact this
    · exact xr_bound x n
  obtain ⟨sa, hsa⟩ : ∃ sa, sa = shapeB P ql := ⟨_, rfl⟩
  have hsr : shapeB P rl = sa := by rw [hrl, hsa]; exact shape_rnm (fun a c ha hc _ _ h => xr_inj (qi a ha) (qi c hc) h)
  have oka := Lib.hid (show Okay sa ∧ sa.cells.length ≤ 17592186044400 by rw [hsa]; exact shape_okay hPb qok qi qn)
  have HVA := Lib.hid (show validB sa = true by rw [hsa]; exact shape_valid hPb.1 qok)
  have HD1 := Lib.hid (show distB [(P, ql), (P, rl), (P, ql)] = [sa] from dist_three hsa.symm hsr (by rw [hsa, shapeB_ok hPb.1 qok]; exact hPb.1))
  have HPR := Lib.hid (fun (w' : World) (v : Value) (hv : SlotsAt w' w'.heap.size v l) => (show Calls Try.prog 22 #[.agg #[.int .i64 p, v]] w' (PatIs P ql w') by rw [hP, hql]; exact proper_any p l v w' hv hn0))
  have HSA := Lib.hid (fun (w' : World) (v : Value) (hv : SlotsAt w' w'.heap.size v ql) => (show Calls Try.prog 23 #[.agg #[.int .i64 P, v]] w' (ShapeIs sa w') by rw [hsa]; exact shape_any P ql v w' hv qi qn))
  have HSR := Lib.hid (fun (w' : World) (v : Value) (hv : SlotsAt w' w'.heap.size v rl) => (show Calls Try.prog 23 #[.agg #[.int .i64 P, v]] w' (ShapeIs sa w') by rw [← hsr]; exact shape_any P rl v w' hv ri (by rw [hrn]; exact qn)))
  have HQ0 := Lib.hid hPb
  have HST := Lib.hid (And.intro qok (And.intro rok (And.intro qi (And.intro ri (hsr.trans hsa)))))
  have HRL := Lib.hid hrl
  have HRN := Lib.hid hrn
  have HSS := Lib.hid hsa
  clear hs0 hi0 hn0 hp0 hP hql hPb qok qi rok ri hsr hsa hrl hrn
  go_enter Try.func8, Try.ntmps8
  go_wp2_with fail
  rw [← hW0]
  clear hW0
  refine (HPR.out W0 _ PB.out.2.2.1).mono ?_
  rintro e w1 ⟨vq, rfl, hoq, hb⟩
  have hw01 := hb.size
  obtain ⟨aq, cq, rfl, haq⟩ := SlotsAt.form hoq.at
  have HAQ := Lib.hid haq
  have hqlt : ∀ k, (Value.slice aq ql.length cq).ownBlock = some k → k < w1.heap.size := fun k hk => (hoq.lt k hk).2
  have HQL := Lib.hid hqlt
  have NW1 := Lib.hid (NW.out.trans (hb.mono NW.out.size))
  have HOQ := Lib.hid hoq
  clear hb hoq haq hqlt NW PB
  go_wp2
  obtain ⟨Q, hQ⟩ : ∃ Q, Q = w1.heap.size := ⟨_, rfl⟩
  obtain ⟨R, hR⟩ : ∃ R, R = w1.heap.size + 1 := ⟨_, rfl⟩
  have QX0 : BX W0.heap.size Q P ql (.slice aq ql.length cq) ((w1.alloc (.cells #[.int .i64 P, .slice aq ql.length cq] 39)).alloc (.cells #[.int .i64 P, .slice none 0 0] 39)) := by
    rw [hQ]; exact (BX.start HOQ.out hw01).alloc _
  have RX0 : BX R R P [] (.slice none 0 0) ((w1.alloc (.cells #[.int .i64 P, .slice aq ql.length cq] 39)).alloc (.cells #[.int .i64 P, .slice none 0 0] 39)) := by
    refine ⟨Nat.le_refl _, ?_, World.ownsRow_nil _ _ _ _⟩
    have := heap_alloc_new (w1.alloc (.cells #[.int .i64 P, .slice aq ql.length cq] 39)) (.cells #[.int .i64 P, .slice none 0 0] 39)
    rw [hR]; simpa using this
  have NY0 : Below w.heap.size w ((w1.alloc (.cells #[.int .i64 P, .slice aq ql.length cq] 39)).alloc (.cells #[.int .i64 P, .slice none 0 0] 39)) :=
    (NW1.out.alloc NW1.out.size _).alloc (by have := NW1.out.size; simp; omega) _
  have HWQ := Lib.hid (show w.heap.size ≤ Q by rw [hQ]; exact NW1.out.size)
  have hQR : Q < R := by omega
  have HQL2 := Lib.hid (show ∀ k, (Value.slice aq ql.length cq).ownBlock = some k → k < Q by rw [hQ]; exact HQL.out)
  have HW0Q := Lib.hid (show W0.heap.size ≤ Q by rw [hQ]; exact hw01)
  generalize (w1.alloc (.cells #[.int .i64 P, .slice aq ql.length cq] 39)).alloc (.cells #[.int .i64 P, .slice none 0 0] 39) = y2 at QX0 RX0 NY0 ⊢
  rw [← hQ]
  have hR2 : w1.heap.size + 1 = R := hR.symm
  rw [← hQ] at hR2
  rw [hR2]
  have QX0 := Lib.hid QX0
  have RX0 := Lib.hid RX0
  have NY0 := Lib.hid NY0
  clear hQ hR hR2 HOQ NW1 HQL hw01
  go_loopw [7] (fun k wr => ∃ (v : Value) (i : Nat), k = .int .i64 (i : Int) ∧ i ≤ ql.length ∧ BX R R P ((ql.take i).map (rnm (xr x))) v wr ∧ BX W0.heap.size Q P ql (.slice aq ql.length cq) wr ∧ Below w.heap.size w wr) (fun k _ => ql.length - (intOf k).toNat)
  case atStart => exact ⟨_, 0, rfl, Nat.zero_le _, RX0.out, QX0.out, NY0.out⟩
  case round =>
    clear QX0 RX0 NY0
    obtain ⟨v, i, rfl, hil, hRX, hQX, hNY⟩ := hrel
    have RX := Lib.hid hRX
    have QX := Lib.hid hQX
    have NY := Lib.hid hNY
    have ka := hQX.c1
    have hsz := hNY.size
    have hRl := hRX.lt
    clear hRX hQX hNY
    by_cases h1 : i < ql.length
    · obtain ⟨g, off, rfl⟩ := HAQ.out (ne_of_lt_len h1)
      obtain ⟨b, n, hsi⟩ : ∃ b n, ql[i]? = some (b, n) := ⟨ql[i].1, ql[i].2, List.getElem?_eq_getElem h1⟩
      obtain ⟨hg, c0, c1⟩ := SlotsAt.get QX.out.at hsi
      have HI := Lib.hid hsi
      have hol : ((ql.take i).map (rnm (xr x))).length = i := by rw [List.length_map, List.length_take]; omega
      obtain ⟨out, hout⟩ : ∃ out, out = (ql.take i).map (rnm (xr x)) := ⟨_, rfl⟩
      rw [← hout] at RX hol
      have HO := Lib.hid hout
      have holb : out.length ≤ 8796093021952 := by omega
      clear hsi hout hol
      cases b with
      | false =>
        have R1 := Lib.hid (RX.out.alloc (.cells #[.bool false, .int .i64 (n)] 53))
        have Q1 := Lib.hid (QX.out.alloc (.cells #[.bool false, .int .i64 (n)] 53))
        have hzA : (wr.alloc (.cells #[.bool false, .int .i64 (n)] 53)).heap.size = wr.heap.size + 1 := by simp
        have k1 := R1.out.c1
        go_wp2_with (at_builtin; refine wpList_append_own _ rfl _ _ 37 rfl R 53 i53 (.agg #[.bool false, .int .i64 0]) 2 16 Try.underlying37 pi p0 p1 p2 rfl (by decide) v out.length (slits out) rfl (R1.out.alloc (.cells #[.bool false, .int .i64 (n)] 53)).own ⟨wr.heap.size + 1, 0, none⟩ 1 1 [.bool false, .int .i64 (n)] rfl rfl (by rw [← hzA]; exact World.news_of_block (cs := #[.bool false, .int .i64 (n)]) (t := 53) (fr := (0, 0)) (heap_alloc_new _ _)) (one_slot _ _) (by unfold maxLen; omega) (by omega) (by simp; omega) ?_; intro v' w1 hown' hgrow hnl; obtain ⟨g', c', rfl⟩ := Joins.ownsRow_form hown' (by omega); have hw3 := (R1.out.alloc (.cells #[.bool false, .int .i64 (n)] 53)).grown hgrow; have k1 := bcell_of hw3; have hf := bfree_of hw3)
        have HP := Lib.hid ((R1.out.alloc (.cells #[.bool false, .int .i64 (n)] 53)).push hown' hgrow)
        have hvb : ∀ k, v.ownBlock = some k → R ≤ k := fun k hk => (RX.out.own.lt k hk).1
        have HQ2 := Lib.hid ((Q1.out.alloc (.cells #[.bool false, .int .i64 (n)] 53)).across (Q := R) (v := v) hgrow (by omega) (by intro e; have := hvb _ e.symm; omega) (apart_rows HQL2.out hvb hQR) (by intro k hk e; have := HQL2.out k hk; omega) (.slice (some ⟨g', 0, none⟩) (out.length + 1) c'))
        have HN2 := Lib.hid (((NY.out.alloc hsz (.cells #[.bool false, .int .i64 (n)] 53)).alloc (by simp; omega) (.cells #[.bool false, .int .i64 (n)] 53)).grown hgrow (by simp; omega) (fun k hk => by have := hvb k hk; have := HWQ.out; omega) |>.setCell (p := ⟨R, 1, none⟩) (show w.heap.size ≤ R by have := HWQ.out; omega) (.slice (some ⟨g', 0, none⟩) (out.length + 1) c'))
        go_roundw
        case rel => exact ⟨_, i + 1, by go_num, by omega, by rw [pats_next HI.out (show rnm (xr x) (false, n) = (false, n) from rfl), ← HO.out]; exact HP.out, HQ2.out, HN2.out⟩
        case measure => simp only [intOf]; omega
      | true =>
        have R1 := Lib.hid (RX.out.alloc (.cells #[.bool true, .int .i64 (bits .xor .i64 n x)] 53))
        have Q1 := Lib.hid (QX.out.alloc (.cells #[.bool true, .int .i64 (bits .xor .i64 n x)] 53))
        have hzA : (wr.alloc (.cells #[.bool true, .int .i64 (bits .xor .i64 n x)] 53)).heap.size = wr.heap.size + 1 := by simp
        have k1 := R1.out.c1
        go_wp2_with (at_builtin; refine wpList_append_own _ rfl _ _ 37 rfl R 53 i53 (.agg #[.bool false, .int .i64 0]) 2 16 Try.underlying37 pi p0 p1 p2 rfl (by decide) v out.length (slits out) rfl (R1.out.alloc (.cells #[.bool true, .int .i64 (bits .xor .i64 n x)] 53)).own ⟨wr.heap.size + 1, 0, none⟩ 1 1 [.bool true, .int .i64 (bits .xor .i64 n x)] rfl rfl (by rw [← hzA]; exact World.news_of_block (cs := #[.bool true, .int .i64 (bits .xor .i64 n x)]) (t := 53) (fr := (0, 0)) (heap_alloc_new _ _)) (one_slot _ _) (by unfold maxLen; omega) (by omega) (by simp; omega) ?_; intro v' w1 hown' hgrow hnl; obtain ⟨g', c', rfl⟩ := Joins.ownsRow_form hown' (by omega); have hw3 := (R1.out.alloc (.cells #[.bool true, .int .i64 (bits .xor .i64 n x)] 53)).grown hgrow; have k1 := bcell_of hw3; have hf := bfree_of hw3)
        have HP := Lib.hid ((R1.out.alloc (.cells #[.bool true, .int .i64 (bits .xor .i64 n x)] 53)).push hown' hgrow)
        have hvb : ∀ k, v.ownBlock = some k → R ≤ k := fun k hk => (RX.out.own.lt k hk).1
        have HQ2 := Lib.hid ((Q1.out.alloc (.cells #[.bool true, .int .i64 (bits .xor .i64 n x)] 53)).across (Q := R) (v := v) hgrow (by omega) (by intro e; have := hvb _ e.symm; omega) (apart_rows HQL2.out hvb hQR) (by intro k hk e; have := HQL2.out k hk; omega) (.slice (some ⟨g', 0, none⟩) (out.length + 1) c'))
        have HN2 := Lib.hid (((NY.out.alloc hsz (.cells #[.bool true, .int .i64 (bits .xor .i64 n x)] 53)).alloc (by simp; omega) (.cells #[.bool true, .int .i64 (bits .xor .i64 n x)] 53)).grown hgrow (by simp; omega) (fun k hk => by have := hvb k hk; have := HWQ.out; omega) |>.setCell (p := ⟨R, 1, none⟩) (show w.heap.size ≤ R by have := HWQ.out; omega) (.slice (some ⟨g', 0, none⟩) (out.length + 1) c'))
        go_roundw
        case rel => exact ⟨_, i + 1, by go_num, by omega, by rw [pats_next HI.out (show rnm (xr x) (true, n) = (true, bits .xor .i64 n x) from rfl), ← HO.out]; exact HP.out, HQ2.out, HN2.out⟩
        case measure => simp only [intOf]; omega
    · have e : i = ql.length := by omega
      have hRXe : BX R R P rl v wr := by have := RX.out; rw [e, List.take_length, ← HRL.out] at this; exact this
      obtain ⟨ar, cr, rfl, _⟩ := lits_form hRXe.own
      replace RX := Lib.hid hRXe
      clear e hRXe ka
      have q0 := QX.out.c0
      have q1 := QX.out.c1
      go_wp2_with fail
      clear q0 q1
      refine (HSA.out wr _ QX.out.at).mono ?_
      rintro e w3 ⟨va, rfl, hoa, hb⟩
      obtain ⟨aA, nA, cA, rfl⟩ := hoa.form
      have IA := Lib.hid hoa.at
      replace QX := Lib.hid (QX.out.up hb)
      replace RX := Lib.hid (RX.out.up hb)
      replace NY := Lib.hid (NY.out.trans (hb.mono NY.out.size))
      clear hb hoa hsz hRl
      have r0 := (RX.out.alloc (.cells #[.int .i64 sa.pred, .slice aA nA cA] 27)).c0
      have r1 := (RX.out.alloc (.cells #[.int .i64 sa.pred, .slice aA nA cA] 27)).c1
      go_wp2_with fail
      generalize hx : w3.alloc (.cells #[.int .i64 sa.pred, .slice aA nA cA] 27) = y3
      have hb : Below w3.heap.size w3 y3 := by rw [← hx]; exact up_alloc _ _
      have AB := Lib.hid (show ShBox y3 w3.heap.size sa (.slice aA nA cA) by rw [← hx]; exact ShBox.made IA.out)
      replace QX := Lib.hid (QX.out.up hb)
      replace RX := Lib.hid (RX.out.up hb)
      replace NY := Lib.hid (NY.out.trans (hb.mono NY.out.size))
      clear hx hb r0 r1 IA
      refine (HSR.out y3 _ RX.out.at).mono ?_
      rintro e w4 ⟨vb, rfl, hob, hb⟩
      obtain ⟨aB, nB, cB, rfl⟩ := hob.form
      have IB := Lib.hid hob.at
      replace QX := Lib.hid (QX.out.up hb)
      replace RX := Lib.hid (RX.out.up hb)
      replace NY := Lib.hid (NY.out.trans (hb.mono NY.out.size))
      replace AB := Lib.hid (AB.out.below hb)
      clear hb hob
      have r0 := (RX.out.alloc (.cells #[.int .i64 sa.pred, .slice aB nB cB] 27)).c0
      have r1 := (RX.out.alloc (.cells #[.int .i64 sa.pred, .slice aB nB cB] 27)).c1
      have q0 := (QX.out.alloc (.cells #[.int .i64 sa.pred, .slice aB nB cB] 27)).c0
      have q1 := (QX.out.alloc (.cells #[.int .i64 sa.pred, .slice aB nB cB] 27)).c1
      go_wp2_with fail
      clear r0 r1 q0 q1
      obtain ⟨y4, hy4⟩ : ∃ y4, y4 = w4.alloc (.cells #[.int .i64 sa.pred, .slice aB nB cB] 27) := ⟨_, rfl⟩
      have hz4 : w4.heap.size + 1 = y4.heap.size := by rw [hy4]; simp
      rw [← hy4]
      try rw [hz4]
      have hb : Below w4.heap.size w4 y4 := by rw [hy4]; exact up_alloc _ _
      have BB := Lib.hid (show ShBox y4 w4.heap.size sa (.slice aB nB cB) by rw [hy4]; exact ShBox.made IB.out)
      replace QX := Lib.hid (QX.out.up hb)
      replace RX := Lib.hid (RX.out.up hb)
      replace NY := Lib.hid (NY.out.trans (hb.mono NY.out.size))
      replace AB := Lib.hid (AB.out.below hb)
      clear hy4 hb IB hz4
      obtain ⟨y5, hy5⟩ : ∃ y5, y5 = y4.alloc (.cells #[.int .i64 P, .slice aq ql.length cq, .int .i64 P, .slice ar rl.length cr, .int .i64 P, .slice aq ql.length cq] 39) := ⟨_, rfl⟩
      have hG : y5.heap[y4.heap.size]? = some (.cells #[.int .i64 P, .slice aq ql.length cq, .int .i64 P, .slice ar rl.length cr, .int .i64 P, .slice aq ql.length cq] 39 (0, 0)) := by rw [hy5]; exact heap_alloc_new _ _
      have hb : Below y4.heap.size y4 y5 := by rw [hy5]; exact up_alloc _ _
      rw [← hy5]
      replace QX := Lib.hid (QX.out.up hb)
      replace RX := Lib.hid (RX.out.up hb)
      replace NY := Lib.hid (NY.out.trans (hb.mono NY.out.size))
      replace AB := Lib.hid (AB.out.below hb)
      replace BB := Lib.hid (BB.out.below hb)
      have hps : OkPats [(P, ql), (P, rl), (P, ql)] := by
        intro a ha
        have hB : Bnd P := by have := HQ0.out; unfold Bnd; omega
        simp only [List.mem_cons, List.not_mem_nil, or_false] at ha
        rcases ha with rfl | rfl | rfl
        · exact ⟨hB, HST.out.2.2.1, Nat.le_trans qn (by decide)⟩
        · exact ⟨hB, HST.out.2.2.2.1, by rw [HRN.out]; exact Nat.le_trans qn (by decide)⟩
        · exact ⟨hB, HST.out.2.2.1, Nat.le_trans qn (by decide)⟩
      clear hy5 hb
      refine (distinct_any [(P, ql), (P, rl), (P, ql)] _ y5 (pats_three (x := (P, ql)) (y := (P, rl)) (z := (P, ql)) hG QX.out.at RX.out.at QX.out.at) hps (by simp)).mono ?_
      rintro e w6 ⟨vl, rfl, hol, hb⟩
      replace QX := Lib.hid (QX.out.up hb)
      replace RX := Lib.hid (RX.out.up hb)
      replace NY := Lib.hid (NY.out.trans (hb.mono NY.out.size))
      replace AB := Lib.hid (AB.out.below hb)
      replace BB := Lib.hid (BB.out.below hb)
      rw [HD1.out] at hol
      obtain ⟨g1, c1, u1, rfl, hl0, hl1, hl2, hl3⟩ := hol.one (i := 0) rfl
      have LB := Lib.hid (show ShEl w6 g1 0 1 sa u1 from ⟨hl0, hl1, hl2, hl3⟩)
      obtain ⟨a1, n1, rfl, _⟩ := id hl2
      clear hb hol hl0 hl1 hl2 hl3 hG hps
      have a0k0 := AB.out.1
      have a1k0 := AB.out.2.1
      have b0k0 := BB.out.1
      have b1k0 := BB.out.2.1
      have l0k0 := LB.out.1
      have l1k0 := LB.out.2.1
      go_wp2_with fail
      go_region_held3 (fun w' => w'.cell? ⟨w3.heap.size, 0, none⟩ = some (.int .i64 sa.pred) ∧ w'.cell? ⟨w3.heap.size, 1, none⟩ = some (.slice aA nA cA) ∧ w'.cell? ⟨w4.heap.size, 0, none⟩ = some (.int .i64 sa.pred) ∧ w'.cell? ⟨w4.heap.size, 1, none⟩ = some (.slice aB nB cB) ∧ w'.cell? ⟨g1, 0, none⟩ = some (.int .i64 sa.pred) ∧ w'.cell? ⟨g1, 1, none⟩ = some (.slice a1 sa.cells.length n1))
        (first | exact ⟨a0k0, a1k0, b0k0, b1k0, l0k0, l1k0⟩ | exact ⟨a0k1, a1k1, b0k1, b1k1, l0k1, l1k1⟩ | exact ⟨a0k2, a1k2, b0k2, b1k2, l0k2, l1k2⟩ | exact ⟨a0k3, a1k3, b0k3, b1k3, l0k3, l1k3⟩)
        (first
          | ((fail_if_success (have hchk := hb0)); go_at_call 17; refine (valid_any sa _ _ (by exact AB.out.2.2.1) oka.out.1.ints oka.out.1.len).mono ?_; rintro e v1 ⟨rfl, hbb⟩; have hb0 : Below w6.heap.size w6 v1 := ⟨hbb.os, hbb.tape, hbb.output, hbb.size, hbb.block⟩; clear hbb; rw [HVA.out]; have AB1 := Lib.hid (AB.out.below hb0); have BB1 := Lib.hid (BB.out.below hb0); have LB1 := Lib.hid (LB.out.below hb0); have a0k1 := AB1.out.1; have a1k1 := AB1.out.2.1; have b0k1 := BB1.out.1; have b1k1 := BB1.out.2.1; have l0k1 := LB1.out.1; have l1k1 := LB1.out.2.1)
          | ((fail_if_success (have hchk := hb1)); go_at_call 32; refine (same_any sa sa _ _ _ ⟨_, rfl, by exact AB1.out.2.2.1⟩ ⟨_, rfl, by exact BB1.out.2.2.1⟩ oka.out.1 oka.out.1).mono ?_; rintro e v2 ⟨rfl, hbb⟩; have hb1 : Below v1.heap.size v1 v2 := ⟨hbb.os, hbb.tape, hbb.output, hbb.size, hbb.block⟩; clear hbb; rw [sameB_self]; have AB2 := Lib.hid (AB1.out.below hb1); have BB2 := Lib.hid (BB1.out.below hb1); have LB2 := Lib.hid (LB1.out.below hb1); have a0k2 := AB2.out.1; have a1k2 := AB2.out.2.1; have b0k2 := BB2.out.1; have b1k2 := BB2.out.2.1; have l0k2 := LB2.out.1; have l1k2 := LB2.out.2.1)
          | ((fail_if_success (have hchk := hb2)); go_at_call 32; refine (same_any sa sa _ _ _ ⟨_, rfl, by exact LB2.out.2.2.1⟩ ⟨_, rfl, by exact AB2.out.2.2.1⟩ oka.out.1 oka.out.1).mono ?_; rintro e v3 ⟨rfl, hbb⟩; have hb2 : Below v2.heap.size v2 v3 := ⟨hbb.os, hbb.tape, hbb.output, hbb.size, hbb.block⟩; clear hbb; rw [sameB_self]; have AB3 := Lib.hid (AB2.out.below hb2); have BB3 := Lib.hid (BB2.out.below hb2); have LB3 := Lib.hid (LB2.out.below hb2); have a0k3 := AB3.out.1; have a1k3 := AB3.out.2.1; have b0k3 := BB3.out.1; have b1k3 := BB3.out.2.1; have l0k3 := LB3.out.1; have l1k3 := LB3.out.2.1))
      have g4 := hb0.trans (hb1.mono hb0.size)
      have hb := g4.trans (hb2.mono g4.size)
      replace QX := Lib.hid (QX.out.up hb)
      replace RX := Lib.hid (RX.out.up hb)
      replace NY := Lib.hid (NY.out.trans (hb.mono NY.out.size))
      clear a0k0 a1k0 b0k0 b1k0 l0k0 l1k0
      clear a0k1 a1k1 b0k1 b1k1 l0k1 l1k1
      clear a0k2 a1k2 b0k2 b1k2 l0k2 l1k2
      clear a0k3 a1k3 b0k3 b1k3 l0k3 l1k3
      clear hb g4 hb0 hb1 hb2 AB BB LB AB1 AB2 AB3 BB1 BB2 BB3 LB1 LB2 LB3
      have hRl := RX.out.lt
      have hsz := NY.out.size
      have hWQ := HWQ.out
      have hrl2 : rl.length ≤ 8796093021952 := by rw [HRN.out]; exact qn
      have r1 := RX.out.c1
      have r2 := (RX.out.alloc (.cells #[.bool false, .int .i64 7] 53)).c1
      have hrb : ∀ k, (Value.slice ar rl.length cr).ownBlock = some k → R ≤ k := fun k hk => (RX.out.own.lt k hk).1
      go_wp2_with (at_builtin; refine wpList_append_own _ rfl _ _ 37 rfl R 53 i53 (.agg #[.bool false, .int .i64 0]) 2 16 Try.underlying37 pi p0 p1 p2 rfl (by decide) (.slice ar rl.length cr) rl.length (slits rl) rfl (RX.out.alloc (.cells #[.bool false, .int .i64 7] 53)).own ⟨v3.heap.size, 0, none⟩ 1 1 [.bool false, .int .i64 7] rfl rfl (World.news_of_block (cs := #[.bool false, .int .i64 7]) (t := 53) (fr := (0, 0)) (heap_alloc_new v3 _)) (one_slot _ _) (by unfold maxLen; omega) (by omega) (by simp; omega) ?_; intro v' w7 hown' hgrow hnl; obtain ⟨gr, cr2, rfl⟩ := Joins.ownsRow_form hown' (by omega); have hw3 := (RX.out.alloc (.cells #[.bool false, .int .i64 7] 53)).grown hgrow; have k1 := bcell_of hw3; have hf := bfree_of hw3)
      have RX7 := Lib.hid ((RX.out.alloc (.cells #[.bool false, .int .i64 7] 53)).push hown' hgrow)
      have QX7 := Lib.hid ((QX.out.alloc (.cells #[.bool false, .int .i64 7] 53)).across (Q := R) (v := .slice ar rl.length cr) hgrow (by omega) (by intro e; have := hrb _ e.symm; omega) (apart_rows HQL2.out hrb hQR) (by intro k hk e; have := HQL2.out k hk; omega) (.slice (some ⟨gr, 0, none⟩) (rl.length + 1) cr2))
      have NY7 := Lib.hid (((NY.out.alloc hsz (.cells #[.bool false, .int .i64 7] 53)).grown hgrow (by simp; omega) (fun k hk => by have := hrb k hk; omega)).setCell (p := ⟨R, 1, none⟩) (show w.heap.size ≤ R by omega) (.slice (some ⟨gr, 0, none⟩) (rl.length + 1) cr2))
      generalize w7.setCell ⟨R, 1, none⟩ (.slice (some ⟨gr, 0, none⟩) (rl.length + 1) cr2) = y7 at RX7 QX7 NY7 ⊢
      have hgrR : R ≤ gr := (RX7.out.own.lt gr rfl).1
      have q0 := QX7.out.c0
      have q1 := QX7.out.c1
      clear hown' hgrow hnl hw3 k1 hf r1 r2 hRl RX QX NY hrb hsz
      go_region_law
        (first
          | (refine step_append_own _ (by rfl) _ _ 37 (by rfl) W0.heap.size 53 i53 (.agg #[.bool false, .int .i64 0]) 2 16 Try.underlying37 pi p0 p1 p2 rfl (by decide) (.slice aq ql.length cq) ql.length (slits ql) (by rfl) (by exact (QX8.out.alloc (.cells #[.bool true, .int .i64 (un : Int)] 53)).own) ⟨w8.heap.size, 0, none⟩ 1 1 [.bool true, .int .i64 (un : Int)] (by rfl) (by rfl) (World.news_of_block (cs := #[.bool true, .int .i64 (un : Int)]) (t := 53) (fr := (0, 0)) (heap_alloc_new w8 _)) (one_slot _ _) (by unfold maxLen; omega) (by omega) (by have := HW0Q.out; have := QX8.out.lt; simp; omega) ?_; intro v'' w9 hown9' hgrow9' hnl9; obtain ⟨gq, cq2, rfl⟩ := Joins.ownsRow_form hown9' (by omega); have hgrow9 : (w8.alloc (.cells #[.bool true, .int .i64 (un : Int)] 53)).grownBy w9 (Value.slice aq ql.length cq).ownBlock := ⟨hgrow9'.os, hgrow9'.tape, hgrow9'.output, hgrow9'.size, hgrow9'.block⟩; have hw9 := (QX8.out.alloc (.cells #[.bool true, .int .i64 (un : Int)] 53)).grown hgrow9; have k1 := bcell_of hw9; have hf := bfree_of hw9)
          | (go_simp; go_at_call 33; refine (unused_any P ql _ _ (by exact QX7.out.at) qn).mono ?_; rintro e w8 ⟨un, rfl, hun, hunl, hbb⟩; have hb8 : Below y7.heap.size y7 w8 := ⟨hbb.os, hbb.tape, hbb.output, hbb.size, hbb.block⟩; clear hbb; have QX8 := Lib.hid (QX7.out.up hb8); have RX8 := Lib.hid (RX7.out.up hb8); have NY8 := Lib.hid (NY7.out.trans (hb8.mono NY7.out.size)); have q2 := QX8.out.c0; have q3 := QX8.out.c1; have q4 := (QX8.out.alloc (.cells #[.bool true, .int .i64 (un : Int)] 53)).c0; have q5 := (QX8.out.alloc (.cells #[.bool true, .int .i64 (un : Int)] 53)).c1; have HUN := Lib.hid hun; clear hun))
      all_goals
        have hQR := hQR
        have QX9 := Lib.hid ((QX8.out.alloc (.cells #[.bool true, .int .i64 (un : Int)] 53)).push hown9' hgrow9)
        have hqb : ∀ k, (Value.slice aq ql.length cq).ownBlock = some k → k < Q := HQL2.out
        have RX9 := Lib.hid ((RX8.out.alloc (.cells #[.bool true, .int .i64 (un : Int)] 53)).across (Q := Q) (v := .slice aq ql.length cq) hgrow9 (by omega) (by intro e; have := hqb _ e.symm; omega) (.inr (by intro e; have := hqb gr e.symm; omega)) (by intro k hk e; simp [Value.ownBlock] at hk; omega) (.slice (some ⟨gq, 0, none⟩) (ql.length + 1) cq2))
        have NY9 := Lib.hid (((NY8.out.alloc NY8.out.size (.cells #[.bool true, .int .i64 (un : Int)] 53)).grown hgrow9 (by have := NY8.out.size; simp; omega) (fun k hk => by have := (QX8.out.own.lt k hk).1; omega)).setCell (p := ⟨Q, 1, none⟩) (show w.heap.size ≤ Q by omega) (.slice (some ⟨gq, 0, none⟩) (ql.length + 1) cq2))
        generalize w9.setCell ⟨Q, 1, none⟩ (.slice (some ⟨gq, 0, none⟩) (ql.length + 1) cq2) = y9 at QX9 RX9 NY9 ⊢
        obtain ⟨qe, hqe⟩ : ∃ qe, qe = ql ++ [(true, (un : Int))] := ⟨_, rfl⟩
        obtain ⟨re, hre⟩ : ∃ re, re = rl ++ [((false, 7) : Slt)] := ⟨_, rfl⟩
        rw [← hqe] at QX9
        rw [← hre] at RX9
        have hP0 := HQ0.out
        obtain ⟨qok, rok, qi, ri, hrs⟩ := HST.out
        have hend := renamed_end (n := (un : Int)) hP0.1 qok rok hrs HUN.out
        rw [← hqe, ← hre] at hend
        have qeok : qe.all okSlt = true := by rw [hqe, List.all_append, qok]; simp [okSlt]
        have reok : re.all okSlt = true := by rw [hre, List.all_append, rok]; simp [okSlt]
        have qei : I64l qe := by
          rw [hqe]; intro a ha
          rcases List.mem_append.1 ha with ha | ha
          · exact qi a ha
          · simp at ha; subst ha; simp only; omega
        have rei : I64l re := by
          rw [hre]; intro a ha
          rcases List.mem_append.1 ha with ha | ha
          · exact ri a ha
          · simp at ha; subst ha; simp only; omega
        have hqn1 : ql.length + 1 ≤ 8796093021953 := by omega
        have qen : qe.length ≤ 8796093022000 := by rw [hqe, List.length_append]; simp; omega
        have ren : re.length ≤ 8796093022000 := by rw [hre, List.length_append]; simp; omega
        obtain ⟨sc, hsc⟩ : ∃ sc, sc = shapeB P re := ⟨_, rfl⟩
        obtain ⟨sd, hsd⟩ : ∃ sd, sd = shapeB P qe := ⟨_, rfl⟩
        rw [← hsd, ← hsc] at hend
        have okc := Lib.hid (show Okay sc ∧ sc.cells.length ≤ 17592186044400 by rw [hsc]; exact shape_okay_big hP0 reok rei ren)
        have okd := Lib.hid (show Okay sd ∧ sd.cells.length ≤ 17592186044400 by rw [hsd]; exact shape_okay_big hP0 qeok qei qen)
        have hpc : 0 ≤ sc.pred := by rw [hsc, shapeB_ok hP0.1 reok]; exact hP0.1
        have hpd : 0 ≤ sd.pred := by rw [hsd, shapeB_ok hP0.1 qeok]; exact hP0.1
        have HD2 := Lib.hid (show distB [(P, re), (P, qe), (-1, []), (P, re)] = [sc, sd] from dist_four (x := (P, re)) (y := (P, qe)) (z := (-1, [])) hsc.symm hsd.symm (by show (shapeB (-1) []).pred < 0; rw [shapeB_neg (by omega)]; decide) hpc hpd hend.1)
        have HSC := Lib.hid (fun (w' : World) (v : Value) (hv : SlotsAt w' w'.heap.size v re) => (show Calls Try.prog 23 #[.agg #[.int .i64 P, v]] w' (ShapeIs sc w') by rw [hsc]; exact shape_big P re v w' hv rei ren))
        have HSD := Lib.hid (fun (w' : World) (v : Value) (hv : SlotsAt w' w'.heap.size v qe) => (show Calls Try.prog 23 #[.agg #[.int .i64 P, v]] w' (ShapeIs sd w') by rw [hsd]; exact shape_big P qe v w' hv qei qen))
        have HE := Lib.hid (show sameB sc sd = false ∧ coversB sd sc = true ∧ coversB sc sd = false from ⟨by rw [sameB_symm]; exact hend.1, hend.2⟩)
        have HPS2 := Lib.hid (show OkPats [(P, re), (P, qe), (-1, []), (P, re)] by
          intro a ha
          have hB : Bnd P := by unfold Bnd; omega
          simp only [List.mem_cons, List.not_mem_nil, or_false] at ha
          rcases ha with rfl | rfl | rfl | rfl
          · exact ⟨hB, rei, ren⟩
          · exact ⟨hB, qei, qen⟩
          · exact ⟨by unfold Bnd; simp, fun a ha => by simp at ha, by simp⟩
          · exact ⟨hB, rei, ren⟩)
        have r0 := RX9.out.c0
        have r1 := RX9.out.c1
        have q0 := QX9.out.c0
        have q1 := QX9.out.c1
        clear hqe hre hP0 qok rok qi ri hrs hend qeok reok qei rei hqn1 qen ren hsc hsd hpc hpd hown9' hgrow9' hnl9 hgrow9 hw9 k1 hf QX8 RX8 NY8 QX7 RX7 NY7 hqb
        go_wp2_with fail
        clear r0 r1 q0 q1
        obtain ⟨y10, hy10⟩ : ∃ y10, y10 = y9.alloc (.cells #[.int .i64 P, .slice (some ⟨gr, 0, none⟩) (rl.length + 1) cr2, .int .i64 P, .slice (some ⟨gq, 0, none⟩) (ql.length + 1) cq2, .int .i64 (-1), .slice none 0 0, .int .i64 P, .slice (some ⟨gr, 0, none⟩) (rl.length + 1) cr2] 39) := ⟨_, rfl⟩
        have hG2 : y10.heap[y9.heap.size]? = some (.cells #[.int .i64 P, .slice (some ⟨gr, 0, none⟩) (rl.length + 1) cr2, .int .i64 P, .slice (some ⟨gq, 0, none⟩) (ql.length + 1) cq2, .int .i64 (-1), .slice none 0 0, .int .i64 P, .slice (some ⟨gr, 0, none⟩) (rl.length + 1) cr2] 39 (0, 0)) := by rw [hy10]; exact heap_alloc_new _ _
        have hb : Below y9.heap.size y9 y10 := by rw [hy10]; exact up_alloc _ _
        rw [← hy10]
        replace QX9 := Lib.hid (QX9.out.up hb)
        replace RX9 := Lib.hid (RX9.out.up hb)
        replace NY9 := Lib.hid (NY9.out.trans (hb.mono NY9.out.size))
        clear hy10 hb
        refine (distinct_any [(P, re), (P, qe), (-1, []), (P, re)] _ y10 (pats_four (x := (P, re)) (y := (P, qe)) (z := (-1, [])) (t := (P, re)) hG2 RX9.out.at QX9.out.at ⟨none, 0, rfl, .inl rfl⟩ RX9.out.at) HPS2.out (by simp)).mono ?_
        rintro e w11 ⟨vm, rfl, hom, hb⟩
        replace QX9 := Lib.hid (QX9.out.up hb)
        replace RX9 := Lib.hid (RX9.out.up hb)
        replace NY9 := Lib.hid (NY9.out.trans (hb.mono NY9.out.size))
        rw [HD2.out] at hom
        obtain ⟨g2, c2, u2, rfl, m0, m1, m2, m3⟩ := hom.one (i := 0) rfl
        obtain ⟨g3, c3, u3, hv3, m4, m5, m6, m7⟩ := hom.one (i := 1) rfl
        simp only [Value.slice.injEq, Option.some.injEq, Addr.mk.injEq, and_true, true_and] at hv3
        obtain ⟨rfl, rfl⟩ := hv3
        have MC := Lib.hid (show ShEl w11 g2 0 1 sc u2 from ⟨m0, m1, m2, m3⟩)
        have MD := Lib.hid (show ShEl w11 g2 2 3 sd u3 from ⟨m4, m5, m6, m7⟩)
        obtain ⟨a2, n2, rfl, _⟩ := id m2
        obtain ⟨a3, n3, rfl, _⟩ := id m6
        have r0 := RX9.out.c0
        have r1 := RX9.out.c1
        clear hb hom m0 m1 m2 m3 m4 m5 m6 m7 hG2
        go_wp2_with fail
        clear r0 r1
        refine (HSC.out w11 _ RX9.out.at).mono ?_
        rintro e w12 ⟨vc, rfl, hoc, hb⟩
        obtain ⟨aC, nC, cC, rfl⟩ := hoc.form
        have IC := Lib.hid hoc.at
        replace QX9 := Lib.hid (QX9.out.up hb)
        replace NY9 := Lib.hid (NY9.out.trans (hb.mono NY9.out.size))
        replace MC := Lib.hid (MC.out.below hb)
        replace MD := Lib.hid (MD.out.below hb)
        have q0 := (QX9.out.alloc (.cells #[.int .i64 sc.pred, .slice aC nC cC] 27)).c0
        have q1 := (QX9.out.alloc (.cells #[.int .i64 sc.pred, .slice aC nC cC] 27)).c1
        clear hb hoc
        go_wp2_with fail
        generalize hx : w12.alloc (.cells #[.int .i64 sc.pred, .slice aC nC cC] 27) = y12
        have hb : Below w12.heap.size w12 y12 := by rw [← hx]; exact up_alloc _ _
        have CB := Lib.hid (show ShBox y12 w12.heap.size sc (.slice aC nC cC) by rw [← hx]; exact ShBox.made IC.out)
        replace QX9 := Lib.hid (QX9.out.up hb)
        replace NY9 := Lib.hid (NY9.out.trans (hb.mono NY9.out.size))
        replace MC := Lib.hid (MC.out.below hb)
        replace MD := Lib.hid (MD.out.below hb)
        clear hx hb q0 q1 IC
        refine (HSD.out y12 _ QX9.out.at).mono ?_
        rintro e w13 ⟨vd, rfl, hod, hb⟩
        obtain ⟨aD, nD, cD, rfl⟩ := hod.form
        have ID := Lib.hid hod.at
        replace NY9 := Lib.hid (NY9.out.trans (hb.mono NY9.out.size))
        replace MC := Lib.hid (MC.out.below hb)
        replace MD := Lib.hid (MD.out.below hb)
        replace CB := Lib.hid (CB.out.below hb)
        clear hb hod
        go_wp2_with fail
        generalize hx : w13.alloc (.cells #[.int .i64 sd.pred, .slice aD nD cD] 27) = y13
        have hb : Below w13.heap.size w13 y13 := by rw [← hx]; exact up_alloc _ _
        have DB := Lib.hid (show ShBox y13 w13.heap.size sd (.slice aD nD cD) by rw [← hx]; exact ShBox.made ID.out)
        replace NY9 := Lib.hid (NY9.out.trans (hb.mono NY9.out.size))
        replace MC := Lib.hid (MC.out.below hb)
        replace MD := Lib.hid (MD.out.below hb)
        replace CB := Lib.hid (CB.out.below hb)
        clear hx hb ID
        have m0k0 := MC.out.1
        have m1k0 := MC.out.2.1
        have m2k0 := MD.out.1
        have m3k0 := MD.out.2.1
        have c0k0 := CB.out.1
        have c1k0 := CB.out.2.1
        have d0k0 := DB.out.1
        have d1k0 := DB.out.2.1
        go_region_held3 (fun w' => w'.cell? ⟨g2, 0, none⟩ = some (.int .i64 sc.pred) ∧ w'.cell? ⟨g2, 1, none⟩ = some (.slice a2 sc.cells.length n2) ∧ w'.cell? ⟨g2, 2, none⟩ = some (.int .i64 sd.pred) ∧ w'.cell? ⟨g2, 3, none⟩ = some (.slice a3 sd.cells.length n3) ∧ w'.cell? ⟨w12.heap.size, 0, none⟩ = some (.int .i64 sc.pred) ∧ w'.cell? ⟨w12.heap.size, 1, none⟩ = some (.slice aC nC cC) ∧ w'.cell? ⟨w13.heap.size, 0, none⟩ = some (.int .i64 sd.pred) ∧ w'.cell? ⟨w13.heap.size, 1, none⟩ = some (.slice aD nD cD))
          (first | exact ⟨m0k0, m1k0, m2k0, m3k0, c0k0, c1k0, d0k0, d1k0⟩ | exact ⟨m0k1, m1k1, m2k1, m3k1, c0k1, c1k1, d0k1, d1k1⟩ | exact ⟨m0k2, m1k2, m2k2, m3k2, c0k2, c1k2, d0k2, d1k2⟩ | exact ⟨m0k3, m1k3, m2k3, m3k3, c0k3, c1k3, d0k3, d1k3⟩ | exact ⟨m0k4, m1k4, m2k4, m3k4, c0k4, c1k4, d0k4, d1k4⟩ | exact ⟨m0k5, m1k5, m2k5, m3k5, c0k5, c1k5, d0k5, d1k5⟩)
          (first
            | ((fail_if_success (have hchk := hb0)); go_at_call 32; refine (same_any sc sc _ _ _ ⟨_, rfl, by exact MC.out.2.2.1⟩ ⟨_, rfl, by exact CB.out.2.2.1⟩ okc.out.1 okc.out.1).mono ?_; rintro e v11 ⟨rfl, hbb⟩; have hb0 : Below y13.heap.size y13 v11 := ⟨hbb.os, hbb.tape, hbb.output, hbb.size, hbb.block⟩; clear hbb; rw [sameB_self]; have MC1 := Lib.hid (MC.out.below hb0); have MD1 := Lib.hid (MD.out.below hb0); have CB1 := Lib.hid (CB.out.below hb0); have DB1 := Lib.hid (DB.out.below hb0); have m0k1 := MC1.out.1; have m1k1 := MC1.out.2.1; have m2k1 := MD1.out.1; have m3k1 := MD1.out.2.1; have c0k1 := CB1.out.1; have c1k1 := CB1.out.2.1; have d0k1 := DB1.out.1; have d1k1 := DB1.out.2.1)
            | ((fail_if_success (have hchk := hb1)); go_at_call 32; refine (same_any sd sd _ _ _ ⟨_, rfl, by exact MD1.out.2.2.1⟩ ⟨_, rfl, by exact DB1.out.2.2.1⟩ okd.out.1 okd.out.1).mono ?_; rintro e v12 ⟨rfl, hbb⟩; have hb1 : Below v11.heap.size v11 v12 := ⟨hbb.os, hbb.tape, hbb.output, hbb.size, hbb.block⟩; clear hbb; rw [sameB_self]; have MC2 := Lib.hid (MC1.out.below hb1); have MD2 := Lib.hid (MD1.out.below hb1); have CB2 := Lib.hid (CB1.out.below hb1); have DB2 := Lib.hid (DB1.out.below hb1); have m0k2 := MC2.out.1; have m1k2 := MC2.out.2.1; have m2k2 := MD2.out.1; have m3k2 := MD2.out.2.1; have c0k2 := CB2.out.1; have c1k2 := CB2.out.2.1; have d0k2 := DB2.out.1; have d1k2 := DB2.out.2.1)
            | ((fail_if_success (have hchk := hb2)); go_at_call 32; refine (same_any sc sd _ _ _ ⟨_, rfl, by exact CB2.out.2.2.1⟩ ⟨_, rfl, by exact DB2.out.2.2.1⟩ okc.out.1 okd.out.1).mono ?_; rintro e v13 ⟨rfl, hbb⟩; have hb2 : Below v12.heap.size v12 v13 := ⟨hbb.os, hbb.tape, hbb.output, hbb.size, hbb.block⟩; clear hbb; rw [HE.out.1]; have MC3 := Lib.hid (MC2.out.below hb2); have MD3 := Lib.hid (MD2.out.below hb2); have CB3 := Lib.hid (CB2.out.below hb2); have DB3 := Lib.hid (DB2.out.below hb2); have m0k3 := MC3.out.1; have m1k3 := MC3.out.2.1; have m2k3 := MD3.out.1; have m3k3 := MD3.out.2.1; have c0k3 := CB3.out.1; have c1k3 := CB3.out.2.1; have d0k3 := DB3.out.1; have d1k3 := DB3.out.2.1)
            | ((fail_if_success (have hchk := hb3)); go_at_call 14; refine (covers_any sd sc _ _ _ ⟨_, rfl, by exact DB3.out.2.2.1⟩ ⟨_, rfl, by exact CB3.out.2.2.1⟩ okd.out.1 okc.out.1).mono ?_; rintro e v14 ⟨rfl, hbb⟩; have hb3 : Below v13.heap.size v13 v14 := ⟨hbb.os, hbb.tape, hbb.output, hbb.size, hbb.block⟩; clear hbb; rw [HE.out.2.1]; have MC4 := Lib.hid (MC3.out.below hb3); have MD4 := Lib.hid (MD3.out.below hb3); have CB4 := Lib.hid (CB3.out.below hb3); have DB4 := Lib.hid (DB3.out.below hb3); have m0k4 := MC4.out.1; have m1k4 := MC4.out.2.1; have m2k4 := MD4.out.1; have m3k4 := MD4.out.2.1; have c0k4 := CB4.out.1; have c1k4 := CB4.out.2.1; have d0k4 := DB4.out.1; have d1k4 := DB4.out.2.1)
            | ((fail_if_success (have hchk := hb4)); go_at_call 14; refine (covers_any sc sd _ _ _ ⟨_, rfl, by exact CB4.out.2.2.1⟩ ⟨_, rfl, by exact DB4.out.2.2.1⟩ okc.out.1 okd.out.1).mono ?_; rintro e v15 ⟨rfl, hbb⟩; have hb4 : Below v14.heap.size v14 v15 := ⟨hbb.os, hbb.tape, hbb.output, hbb.size, hbb.block⟩; clear hbb; rw [HE.out.2.2]; have MC5 := Lib.hid (MC4.out.below hb4); have MD5 := Lib.hid (MD4.out.below hb4); have CB5 := Lib.hid (CB4.out.below hb4); have DB5 := Lib.hid (DB4.out.below hb4); have m0k5 := MC5.out.1; have m1k5 := MC5.out.2.1; have m2k5 := MD5.out.1; have m3k5 := MD5.out.2.1; have c0k5 := CB5.out.1; have c1k5 := CB5.out.2.1; have d0k5 := DB5.out.1; have d1k5 := DB5.out.2.1))
        have e1 := hb0.trans (hb1.mono hb0.size)
        have e2 := e1.trans (hb2.mono e1.size)
        have e3 := e2.trans (hb3.mono e2.size)
        have e4 := e3.trans (hb4.mono e3.size)
        replace NY9 := Lib.hid (NY9.out.trans (e4.mono NY9.out.size))
        go_wp2
        go_ret
        exact ⟨rfl, NY9.out⟩

end Go.Proofs.Ytlandkindbmbfaa
