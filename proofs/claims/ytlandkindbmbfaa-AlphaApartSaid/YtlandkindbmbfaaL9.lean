/-
  The walk of the law AlphaApart: it returns true and leaves what was in memory. Conditions: the arguments are within the form's own reach.
-/
import Derived.Test.YtlandkindbmbfaaK18
import Derived.Test.YtlandkindbmbfaaO3
import Derived.Test.YtlandkindbmbfaaK15
import Derived.Test.YtlandkindbmbfaaK6
import Derived.Test.YtlandkindbmbfaaW11
import Derived.Deep.CutRange
namespace Go.Proofs.Ytlandkindbmbfaa
open Go.RowKit Plain
theorem and16 (n : Int) : 0 ≤ bits .and .i64 n 65535 := by
  unfold bits
  simp only
  have h : (BitVec.ofInt IntKind.i64.bits n &&& BitVec.ofInt IntKind.i64.bits 65535).toNat ≤ 65535 := by
    rw [BitVec.toNat_and]
    have : (BitVec.ofInt IntKind.i64.bits 65535).toNat = 65535 := by decide
    rw [this]
    exact Nat.and_le_right
  rw [IntKind.wrap_i64]
  omega
theorem fl_nonneg {x : Int} {b : Slt} (h : okSlt b = true) : 0 ≤ fl x b := by
  unfold fl
  split
  · exact and16 _
  · rename_i hb
    unfold okSlt at h
    simpa [hb] using h
theorem fl_nonnegs {x : Int} {l : List Slt} (h : l.all okSlt = true) : negB (l.map (fl x)) = false := by
  unfold negB
  rw [List.any_eq_false]
  intro y hy
  obtain ⟨b, hb, rfl⟩ := List.mem_map.1 hy
  have := fl_nonneg (x := x) (List.all_eq_true.1 h b hb)
  simp; omega
theorem built_one (w : World) (x : Int) : IntsAt (w.alloc (.cells #[.int .i64 x] 3)) (w.alloc (.cells #[.int .i64 x] 3)).heap.size (.slice (some ⟨w.heap.size, 0, none⟩) 1 1) [x] := by
  refine ⟨_, 1, rfl, .inr ⟨w.heap.size, 0, rfl, by simp, fun j hj => ?_⟩⟩
  have hj0 : j = 0 := by simp at hj; omega
  subst hj0
  simp [at']
theorem built_three (w : World) (x y z : Int) : IntsAt (w.alloc (.cells #[.int .i64 x, .int .i64 y, .int .i64 z] 3)) (w.alloc (.cells #[.int .i64 x, .int .i64 y, .int .i64 z] 3)).heap.size (.slice (some ⟨w.heap.size, 0, none⟩) 3 3) [x, y, z] := by
  refine ⟨_, 3, rfl, .inr ⟨w.heap.size, 0, rfl, by simp, fun j hj => ?_⟩⟩
  have hj0 : j = 0 ∨ j = 1 ∨ j = 2 := by simp at hj; omega
  rcases hj0 with rfl | rfl | rfl <;> simp [at']
/-- The six lists. -/
def six : List (List Int) := List.replicate 3 [0] ++ List.replicate 3 (iota 3)
theorem six_lo {i : Nat} (h : i < 3) : six[i]? = some [0] := by
  have h0 : i = 0 ∨ i = 1 ∨ i = 2 := by omega
  rcases h0 with rfl | rfl | rfl <;> rfl
theorem six_hi {i : Nat} (h : i < 3) : six[i + 3]? = some (iota 3) := by
  have h0 : i = 0 ∨ i = 1 ∨ i = 2 := by omega
  rcases h0 with rfl | rfl | rfl <;> rfl
theorem six_short : Shorts six := fun j l h => by
  have hj : j < 6 := (List.getElem?_eq_some_iff.1 h).1
  have h0 : j = 0 ∨ j = 1 ∨ j = 2 ∨ j = 3 ∨ j = 4 ∨ j = 5 := by omega
  rcases h0 with rfl | rfl | rfl | rfl | rfl | rfl <;> (cases h; decide)

attribute [local go_sem ↓] Go.wp_at_zero Go.wp_at_succ

/-- append of a list of numbers, nil or not, at a step of a region that draws. -/
theorem step_append_num {P : Program} (w : World) {ops : Array Oper} {o : Oper} {a : Act} {K : Act → World → Prop} {Q : Exit → Act → World → Prop} {E : Prop} (hgd : o.guard = none) (s x : Operand) (t : TypeId)
    (ho : o.op = .call { callee := .builtin .append, args := #[s, x], argTypes := #[t, t] })
    (base : Nat) (i : TypeInfo) (ht : P.underlying t = some (.slice 3)) (hi : P.info? 3 = some i) (hz : i.zero = some (.int .i64 0)) (hsize : i.size = 1) (hby : i.bytes = 8)
    (v : Value) (n : Nat) (xs : List Value) (hs : a.eval s = v) (hown : w.ownsRow base 3 1 v n xs) (u : Value) (l : List Int) (hx : a.eval x = u) (hu : IntsAt w w.heap.size u l) (hny : Nilly u) (hv : v ≠ .slice none 0 0)
    (h63 : n + l.length ≤ 17592186044416) (hbase : base ≤ w.heap.size)
    (h : ∀ v' w', w'.ownsRow base 3 1 v' (n + l.length) (xs ++ lits l) → w.grownBy w' v.ownBlock → v' ≠ .slice none 0 0 → K (a.put o.dst v') w') :
    if Region.wanted o (yielded ops a.tmps) = true then Oper.wp P o a w K Q else E := by
  obtain ⟨au, cu, rfl, _⟩ := id hu
  rcases au with _ | ad
  · obtain ⟨e1, e2⟩ := hny _ _ rfl
    have hl : l = [] := List.length_eq_zero_iff.1 e1
    subst hl e2
    exact step_append_own_none w hgd s x t ho base 3 i 1 ht hi v n xs hs hown hx (h v w (by simpa [lits] using hown) ⟨rfl, rfl, rfl, Nat.le_refl _, fun _ _ _ => rfl⟩ hv)
  · exact step_append_own w hgd s x t ho base 3 i (.int .i64 0) 1 8 ht hi hz hsize hby rfl (by decide) v n xs hs hown ad l.length cu (lits l) hx (by rw [lits_length, Nat.mul_one]) hu.news (lits_one _) (by unfold maxLen; omega) (by omega) hbase
      (fun v' w' h1 h2 h3 => h v' w' h1 h2 (fun e => hv (h3.1 e).1))


theorem own_one {w : World} {B : Nat} {v : Value} {y : Int} (h : OwnInts w B v [y]) : ∃ g c, v = .slice (some ⟨g, 0, none⟩) 1 c ∧ w.cell? ⟨g, 0, none⟩ = some (.int .i64 y) ∧ B ≤ g ∧ g < w.heap.size := by
  obtain ⟨g, c, rfl⟩ := Joins.ownsRow_form h (by simp)
  have h2 := World.ownsRow.lt h g rfl
  exact ⟨g, c, rfl, OwnInts.cell (j := 0) h (by simp), h2.1, h2.2⟩
theorem own_cap {w : World} {B : Nat} {a : Option Addr} {n c : Nat} {l : List Int} (h : OwnInts w B (.slice a n c) l) : n ≤ c := by
  rcases h.2 with ⟨h5, _⟩ | ⟨g5, c5, cur, h5, _, _, h6, _⟩
  · simp only [Value.slice.injEq] at h5; omega
  · simp only [Value.slice.injEq] at h5
    have e := Joins.ownsRow_forms h
    rcases e with ⟨h7, h8⟩ | ⟨g, cap, h7⟩
    · simp only [Value.slice.injEq] at h7; omega
    · simp only [Value.slice.injEq] at h7; omega

theorem wpList_append_num {P : Program} (w : World) {ops : Array Oper} {rest : List Oper} {o : Oper} {a : Act} {Q : Exit → Act → World → Prop} (hgd : o.guard = none) (s x : Operand) (t : TypeId)
    (ho : o.op = .call { callee := .builtin .append, args := #[s, x], argTypes := #[t, t] })
    (base : Nat) (i : TypeInfo) (ht : P.underlying t = some (.slice 3)) (hi : P.info? 3 = some i) (hz : i.zero = some (.int .i64 0)) (hsize : i.size = 1) (hby : i.bytes = 8)
    (v : Value) (n : Nat) (xs : List Value) (hs : a.eval s = v) (hown : w.ownsRow base 3 1 v n xs) (u : Value) (l : List Int) (hx : a.eval x = u) (hu : IntsAt w w.heap.size u l) (hny : Nilly u) (hv : v ≠ .slice none 0 0)
    (h63 : n + l.length ≤ 17592186044416) (hbase : base ≤ w.heap.size)
    (h : ∀ v' w', w'.ownsRow base 3 1 v' (n + l.length) (xs ++ lits l) → w.grownBy w' v.ownBlock → v' ≠ .slice none 0 0 → wpList P ops Q rest (a.put o.dst v') w') :
    wpList P ops Q (o :: rest) a w := by
  obtain ⟨au, cu, rfl, _⟩ := id hu
  rcases au with _ | ad
  · obtain ⟨e1, e2⟩ := hny _ _ rfl
    have hl : l = [] := List.length_eq_zero_iff.1 e1
    subst hl e2
    exact wpList_append_own_none hgd s x t ho base 3 i 1 ht hi v n xs hs hown hx (h v w (by simpa [lits] using hown) ⟨rfl, rfl, rfl, Nat.le_refl _, fun _ _ _ => rfl⟩ hv)
  · exact wpList_append_own w hgd s x t ho base 3 i (.int .i64 0) 1 8 ht hi hz hsize hby rfl (by decide) v n xs hs hown ad l.length cu (lits l) hx (by rw [lits_length, Nat.mul_one]) hu.news (lits_one _) (by unfold maxLen; omega) (by omega) hbase
      (fun v' w' h1 h2 h3 => h v' w' h1 h2 (fun e => hv (h3.1 e).1))

/-- A variable of shape, filled behind the copy of its cells. -/
def TBox (w6 : World) (s : Shp) (bt : Nat) (w : World) : Prop := ∃ a c, w6.heap.size ≤ bt ∧ Below w6.heap.size w6 w ∧ w.heap[bt]? = some (.cells #[.int .i64 s.pred, .slice a s.cells.length c] 27 (0, 0)) ∧ OwnInts w w6.heap.size (.slice a s.cells.length c) s.cells
theorem TBox.old {w6 wA w7 : World} {s : Shp} {bt rowb : Nat} {a : Option Addr} {c : Nat} (hb : Below w6.heap.size w6 wA) (hg : wA.grownBy w7 (some rowb)) (hr : w6.heap.size ≤ rowb) (ht : wA.heap[bt]? = some (.cells #[.int .i64 0, .slice none 0 0] 27 (0, 0))) (hn : bt ≠ rowb) (hge : w6.heap.size ≤ bt)
    (ho : OwnInts w7 w6.heap.size (.slice a s.cells.length c) s.cells) : TBox w6 s bt ((w7.setCell ⟨bt, 0, none⟩ (.int .i64 s.pred)).setCell ⟨bt, 1, none⟩ (.slice a s.cells.length c)) ∧ w7.heap[bt]? = some (.cells #[.int .i64 0, .slice none 0 0] 27 (0, 0)) := by
  have hlt := lt_of_block ht
  have h7 : w7.heap[bt]? = some (.cells #[.int .i64 0, .slice none 0 0] 27 (0, 0)) := (hg.block bt hlt (fun e => hn (Option.some.inj e))).trans ht
  have hb7 : Below w6.heap.size w6 w7 := hb.grown hg hb.size (fun k hk => by have := Option.some.inj hk; omega)
  refine ⟨⟨a, c, hge, (hb7.setCell (p := ⟨bt, 0, none⟩) hge _).setCell (p := ⟨bt, 1, none⟩) hge _, block_setCell (block_setCell h7), row_keep ho (fun k hk => ?_)⟩, h7⟩
  have hne : k ≠ bt := by
    intro e
    subst e
    rcases ho.2 with ⟨h1, _⟩ | ⟨g, cap, cur, h1, _, h2, _⟩
    · rw [h1] at hk; simp [Value.ownBlock] at hk
    · rw [h1] at hk
      have e2 : g = k := by simpa [Value.ownBlock] using hk
      subst e2
      rw [h7] at h2; simp at h2
  rw [Below.heap_setCell _ _ _ _ hne, Below.heap_setCell _ _ _ _ hne]
theorem TBox.below {w6 w : World} {s : Shp} {bt : Nat} (h : TBox w6 s bt w) : Below w6.heap.size w6 w := by obtain ⟨_, _, _, h1, _⟩ := h; exact h1
theorem TBox.new {w6 w7 : World} {s : Shp} {a : Option Addr} {c : Nat} (hb : Below w6.heap.size w6 w7) (ho : OwnInts w7 w6.heap.size (.slice a s.cells.length c) s.cells) : TBox w6 s w7.heap.size (w7.alloc (.cells #[.int .i64 s.pred, .slice a s.cells.length c] 27)) :=
  ⟨a, c, hb.size, hb.alloc hb.size _, heap_alloc_new _ _, ho.alloc _⟩

set_option maxRecDepth 100000 in
set_option maxHeartbeats 32000000 in
theorem apart_row (v0 : Value) (x0 : Int × List Slt) {w : World} (h0 : PatArg w v0 x0) (x : Int) :
    Calls Try.prog 12 #[v0, .int .i64 x] w fun e w' => e = .returned (.bool true) ∧ Below w.heap.size w w' := by
  obtain ⟨p, l⟩ := x0
  obtain ⟨u0, rfl, hs0, hi0, hn0, hp0⟩ := h0
  simp only at hs0 hi0 hn0 hp0 ⊢
  obtain ⟨i3, qi, q0, q1, q2⟩ := info_parts Try.info3
  obtain ⟨i25, ti, t0, t1, t2⟩ := info_parts Try.info25
  obtain ⟨au0, cu0, rfl, _⟩ := hs0.form
  obtain ⟨W0, hW0⟩ : ∃ W0, W0 = w.alloc (.cells #[.int .i64 p, .slice au0 l.length cu0] 39) := ⟨_, rfl⟩
  have PB := Lib.hid (show PatBox W0 w.heap.size p l (.slice au0 l.length cu0) by rw [hW0]; exact PatBox.made hs0)
  have NW := Lib.hid (show Below w.heap.size w W0 by rw [hW0]; exact up_alloc w _)
  obtain ⟨P, hP⟩ : ∃ P, P = prP p := ⟨_, rfl⟩
  obtain ⟨ql, hql⟩ : ∃ ql, ql = l.map pf := ⟨_, rfl⟩
  have hPb : 0 ≤ P ∧ P ≤ 9223372036854775807 := by rw [hP]; exact prP_ok hp0
  have qok : ql.all okSlt = true := by rw [hql]; exact pf_ok l
  have qi' : I64l ql := by rw [hql]; exact pf_i64 hi0
  have qn : ql.length ≤ 8796093021952 := by rw [hql, List.length_map]; exact hn0
  obtain ⟨sa, hsa⟩ : ∃ sa, sa = shapeB P ql := ⟨_, rfl⟩
  obtain ⟨fr, hfr⟩ : ∃ fr, fr = ql.map (fl x) := ⟨_, rfl⟩
  have hfrn : fr.length ≤ 8796093021952 := by rw [hfr, List.length_map]; exact qn
  have oka := Lib.hid (show Okay sa ∧ sa.cells.length ≤ 17592186044400 by rw [hsa]; exact shape_okay hPb qok qi' qn)
  have HVA := Lib.hid (show validB sa = true by rw [hsa]; exact shape_valid hPb.1 qok)
  have HFA := Lib.hid (show fitsB sa P fr = true by rw [hsa, fits_inst hPb.1 qok, hfr]; exact inst_of_fun (fun c => rfl))
  have HNB := Lib.hid (show newB [sa] = true from newB_snoc newB_nil HVA.out rfl)
  have HPR := Lib.hid (fun (w' : World) (v : Value) (hv : SlotsAt w' w'.heap.size v l) => (show Calls Try.prog 22 #[.agg #[.int .i64 p, v]] w' (PatIs P ql w') by rw [hP, hql]; exact proper_any p l v w' hv hn0))
  have HSA := Lib.hid (fun (w' : World) (v : Value) (hv : SlotsAt w' w'.heap.size v ql) => (show Calls Try.prog 23 #[.agg #[.int .i64 P, v]] w' (ShapeIs sa w') by rw [hsa]; exact shape_any P ql v w' hv qi' qn))
  have HFL := Lib.hid (fun (w' : World) (v : Value) (hv : SlotsAt w' w'.heap.size v ql) => (show Calls Try.prog 25 #[.agg #[.int .i64 P, v], .int .i64 x] w' (fun e w'' => ∃ v, e = .returned v ∧ OwnInts w'' w'.heap.size v fr ∧ Below w'.heap.size w' w'') by rw [hfr]; exact filled_any P ql x v w' hv qn))
  have HDI := Lib.hid (fun (w' : World) (v : Value) (hv : PatsAt w' w'.heap.size v [(P, ql)]) => distinct_any [(P, ql)] v w' hv (fun y hy => by rw [List.mem_singleton] at hy; subst hy; exact ⟨⟨by show _ ≤ P; omega, hPb.2⟩, qi', by show ql.length ≤ _; omega⟩) (by simp))
  have HQ0 := Lib.hid hPb
  have HNF : Hid (negB fr = false) := by rw [hfr]; exact fl_nonnegs qok
  clear hs0 hi0 hn0 hp0 hP hql hPb qok qi' hsa hfr
  go_enter Try.func12, Try.ntmps12
  go_wp2_with fail
  rw [← hW0]
  clear hW0
  refine (HPR.out W0 _ PB.out.2.2.1).mono ?_
  rintro e w1 ⟨vq, rfl, hoq, hb⟩
  obtain ⟨aq, cq, rfl, hqf⟩ := (OwnSlots.at hoq).form
  have HQF := Lib.hid hqf
  replace PB := Lib.hid (PB.out.below hb)
  replace NW := Lib.hid (NW.out.trans (hb.mono NW.out.size))
  have OQ := Lib.hid (OwnSlots.at hoq)
  have PB1 := PB.out.below (up_alloc w1 (.cells #[.int .i64 P, .slice aq ql.length cq] 39))
  have p0k0 := PB1.1
  have p1k0 := PB1.2.1
  clear hb hoq PB1 hqf
  go_wp2_with fail
  generalize hx : w1.alloc (.cells #[.int .i64 P, .slice aq ql.length cq] 39) = y1
  have hb : Below w1.heap.size w1 y1 := by rw [← hx]; exact up_alloc _ _
  have QB := Lib.hid (show PatBox y1 w1.heap.size P ql (.slice aq ql.length cq) by rw [← hx]; exact PatBox.made OQ.out)
  replace PB := Lib.hid (PB.out.below hb)
  replace NW := Lib.hid (NW.out.trans (hb.mono NW.out.size))
  clear hx hb OQ p0k0 p1k0
  refine (HPR.out y1 _ PB.out.2.2.1).mono ?_
  rintro e w2 ⟨vr, rfl, hor, hb⟩
  obtain ⟨ar, cr, rfl, hrf⟩ := (OwnSlots.at hor).form
  have HRF := Lib.hid hrf
  replace QB := Lib.hid (QB.out.below hb)
  replace NW := Lib.hid (NW.out.trans (hb.mono NW.out.size))
  have OR := Lib.hid (OwnSlots.at hor)
  clear hb hor PB HPR hrf
  have QB1 := QB.out.below (up_alloc w2 (.cells #[.int .i64 P, .slice ar ql.length cr] 39))
  have q0k0 := QB1.1
  have q1k0 := QB1.2.1
  clear QB1
  go_wp2_with fail
  generalize hx : w2.alloc (.cells #[.int .i64 P, .slice ar ql.length cr] 39) = y2
  have hb : Below w2.heap.size w2 y2 := by rw [← hx]; exact up_alloc _ _
  have RB := Lib.hid (show PatBox y2 w2.heap.size P ql (.slice ar ql.length cr) by rw [← hx]; exact PatBox.made OR.out)
  replace QB := Lib.hid (QB.out.below hb)
  replace NW := Lib.hid (NW.out.trans (hb.mono NW.out.size))
  clear hx hb OR q0k0 q1k0
  refine (HSA.out y2 _ QB.out.2.2.1).mono ?_
  rintro e w3 ⟨va, rfl, hoa, hb⟩
  obtain ⟨aa, ca, hva2⟩ := own_len hoa
  subst hva2
  replace QB := Lib.hid (QB.out.below hb)
  replace RB := Lib.hid (RB.out.below hb)
  replace NW := Lib.hid (NW.out.trans (hb.mono NW.out.size))
  have OA := Lib.hid hoa.at
  have NA := Lib.hid hoa.nilly
  clear hb hoa HSA
  go_wp2_with fail
  generalize hx : w3.alloc (.cells #[.int .i64 sa.pred, .slice aa sa.cells.length ca] 27) = y3
  have hb : Below w3.heap.size w3 y3 := by rw [← hx]; exact up_alloc _ _
  have AB := Lib.hid (show ShBox y3 w3.heap.size sa (.slice aa sa.cells.length ca) by rw [← hx]; exact ShBox.made OA.out)
  replace QB := Lib.hid (QB.out.below hb)
  replace RB := Lib.hid (RB.out.below hb)
  replace NW := Lib.hid (NW.out.trans (hb.mono NW.out.size))
  clear hx hb OA
  refine (silent_any y3).mono ?_
  rintro e w4 ⟨rfl, hb⟩
  replace QB := Lib.hid (QB.out.below hb)
  replace RB := Lib.hid (RB.out.below hb)
  replace AB := Lib.hid (AB.out.below hb)
  replace NW := Lib.hid (NW.out.trans (hb.mono NW.out.size))
  have q0k0 := QB.out.1
  have q1k0 := QB.out.2.1
  clear hb
  go_wp2_with fail
  generalize hx : w4.alloc (.cells #[.int .i64 P, .slice aq ql.length cq] 39) = y4
  have hb : Below w4.heap.size w4 y4 := by rw [← hx]; exact up_alloc _ _
  have HPA : Hid (PatsAt y4 y4.heap.size (.slice (some ⟨w4.heap.size, 0, none⟩) 1 1) [(P, ql)]) := by
    refine ⟨_, 1, rfl, .inr ⟨w4.heap.size, 0, rfl, by rw [← hx]; simp, fun j s hj => ?_⟩⟩
    have hj0 : j = 0 := by have := (List.getElem?_eq_some_iff.1 hj).1; simp at this; exact this
    subst hj0
    simp only [List.getElem?_cons_zero, Option.some.injEq] at hj
    subst hj
    exact ⟨.slice aq ql.length cq, by rw [← hx]; simp, by rw [← hx]; simp, (QB.out.below hb).2.2.1⟩
  replace QB := Lib.hid (QB.out.below hb)
  replace RB := Lib.hid (RB.out.below hb)
  replace AB := Lib.hid (AB.out.below hb)
  replace NW := Lib.hid (NW.out.trans (hb.mono NW.out.size))
  clear hx hb q0k0 q1k0
  refine (HDI.out y4 _ HPA.out).mono ?_
  rintro e w5 ⟨vd, rfl, _, hb⟩
  replace QB := Lib.hid (QB.out.below hb)
  replace RB := Lib.hid (RB.out.below hb)
  replace AB := Lib.hid (AB.out.below hb)
  replace NW := Lib.hid (NW.out.trans (hb.mono NW.out.size))
  have q1k0 := QB.out.2.1
  have r1k0 := RB.out.2.1
  have hq1 := QB.out.2.2.2
  have hr1 := RB.out.2.2.2
  clear hb HPA HDI
  go_wp2
  go_loopw [8] (fun k wr => ∃ i : Nat, k = .int .i64 (i : Int) ∧ i ≤ ql.length ∧ Hid (Below w5.heap.size w5 wr)) (fun k _ => ql.length - (intOf k).toNat)
  case atStart => exact ⟨0, rfl, Nat.zero_le _, Lib.hid (Below.refl _ _)⟩
  case round =>
    obtain ⟨i, rfl, hil, NX⟩ := hrel
    have q1k := below_cells NX.out hq1 q1k0
    have r1k := below_cells NX.out hr1 r1k0
    by_cases h1 : i < ql.length
    · obtain ⟨gq, oq, rfl⟩ := HQF.out (ne_of_lt_len h1)
      obtain ⟨gr, or, rfl⟩ := HRF.out (ne_of_lt_len h1)
      obtain ⟨b, n, hsi⟩ : ∃ b n, ql[i]? = some (b, n) := ⟨ql[i].1, ql[i].2, List.getElem?_eq_getElem h1⟩
      obtain ⟨_, c0, c1⟩ := SlotsAt.get (QB.out.2.2.1.below NX.out) hsi
      obtain ⟨_, d0, d1⟩ := SlotsAt.get (RB.out.2.2.1.below NX.out) hsi
      have i0 : (0 : Int) ≤ (i : Int) := Int.natCast_nonneg _
      have i1 : (i : Int) < (ql.length : Int) := by omega
      clear hsi
      go_wp2_with fail
      go_quiet (fail)
      generalize hW : wr.drewN _ = wd
      have ND : Hid (Below w5.heap.size w5 wd) := by rw [← hW]; exact ⟨NX.out.os, NX.out.tape, NX.out.output, NX.out.size, NX.out.block⟩
      clear hW c0 c1 d0 d1 q1k r1k
      go_wp2
      go_roundw
      case rel => exact ⟨i + 1, by go_num, by omega, ND⟩
      case measure => simp only [intOf]; omega
    · replace QB := Lib.hid (QB.out.below NX.out)
      replace AB := Lib.hid (AB.out.below NX.out)
      replace NW := Lib.hid (NW.out.trans (NX.out.mono NW.out.size))
      obtain ⟨w6, hw6⟩ : ∃ w6, w6 = wr := ⟨_, rfl⟩
      rw [← hw6] at QB AB NW q1k ⊢
      clear hw6 NX q1k0 r1k0 r1k hq1 hr1 RB HRF
      have QB6 := QB
      have AB6 := AB
      have NW6 := NW
      go_upto_region 12 with fail
      go_cut [9] from 56 (fun c wx => ∃ bt, c = .pointer (some ⟨bt, 0, none⟩) ∧ TBox w6 sa bt wx)
      case first =>
        have AA := Lib.hid (AB.out.below (up_alloc w6 (.cells #[] 3)))
        have AZ := Lib.hid (AB.out.below (up_alloc w6 (.cells #[.int .i64 0, .slice none 0 0] 27)))
        have ABA := Lib.hid (AA.out.below (up_alloc (w6.alloc (.cells #[] 3)) (.cells #[.int .i64 0, .slice none 0 0] 27)))
        have AAB := Lib.hid (AZ.out.below (up_alloc (w6.alloc (.cells #[.int .i64 0, .slice none 0 0] 27)) (.cells #[] 3)))
        have s0 := AB.out.1
        have s1 := AB.out.2.1
        have sa0 := AA.out.1
        have sa1 := AA.out.2.1
        have sz0 := AZ.out.1
        have sz1 := AZ.out.2.1
        have sba0 := ABA.out.1
        have sba1 := ABA.out.2.1
        have sab0 := AAB.out.1
        have sab1 := AAB.out.2.1
        go_region_held3 (fun w' => w'.cell? ⟨w3.heap.size, 0, none⟩ = some (.int .i64 sa.pred) ∧ w'.cell? ⟨w3.heap.size, 1, none⟩ = some (.slice aa sa.cells.length ca))
          (first | exact ⟨s0, s1⟩ | exact ⟨sa0, sa1⟩ | exact ⟨sz0, sz1⟩ | exact ⟨sba0, sba1⟩ | exact ⟨sab0, sab1⟩ | exact ⟨sb0, sb1⟩ | exact ⟨sc0, sc1⟩ | exact ⟨sd0, sd1⟩)
          (first
            | (refine step_append_num _ (by rfl) _ _ 25 (by rfl) w6.heap.size i3 Try.underlying25 qi q0 q1 q2 (.slice (some ⟨w6.heap.size, 0, none⟩) 0 0) 0 [] (by rfl) (by exact World.ownsRow.alloc (World.ownsRow_made w6 #[] 0 (Nat.le_refl _) (by decide) rfl) (.cells #[.int .i64 0, .slice none 0 0] 27)) (.slice aa sa.cells.length ca) sa.cells (by rfl) (by exact ABA.out.2.2.1) NA.out (by simp) (by have := oka.out.2; omega) (by simp <;> omega) ?_; intro u1 w7 hown1 hgrow1 hnil1; obtain ⟨gu, cu1, rfl⟩ := form_of hown1 hnil1; simp only [Nat.zero_add, List.nil_append] at hown1 ⊢; have hgrow1' : ((w6.alloc (.cells #[] 3)).alloc (.cells #[.int .i64 0, .slice none 0 0] 27)).grownBy w7 (some w6.heap.size) := ⟨hgrow1.os, hgrow1.tape, hgrow1.output, hgrow1.size, hgrow1.block⟩; have HT := Lib.hid (TBox.old (s := sa) (bt := w6.heap.size + 1) ((up_alloc w6 (.cells #[] 3)).alloc (by simp) (.cells #[.int .i64 0, .slice none 0 0] 27)) hgrow1' (by simp) (by have hz : (w6.alloc (.cells #[] 3)).heap.size = w6.heap.size + 1 := (by simp); rw [← hz]; exact heap_alloc_new _ _) (by omega) (by simp) hown1); have h7 := HT.out.2; have y0 : w7.cell? ⟨w6.heap.size + 1, 0, none⟩ = some (.int .i64 0) := (by simp only [World.cell?, h7]; rfl); have y1 : w7.cell? ⟨w6.heap.size + 1, 1, none⟩ = some (.slice none 0 0) := (by simp only [World.cell?, h7]; rfl); have z0 : w7.frozen? ⟨w6.heap.size + 1, 0, none⟩ = false := (by simp only [World.frozen?, h7]; rfl); have z1 : w7.frozen? ⟨w6.heap.size + 1, 1, none⟩ = false := (by simp only [World.frozen?, h7]; rfl); have hb7 : Below w6.heap.size w6 w7 := ((up_alloc w6 (.cells #[] 3)).alloc (by simp) (.cells #[.int .i64 0, .slice none 0 0] 27)).grown hgrow1' (by simp <;> omega) (fun k hk => by simp at hk; omega); have A7 := Lib.hid (AB.out.below hb7); have sb0 := A7.out.1; have sb1 := A7.out.2.1; have A8 := Lib.hid (AB.out.below HT.out.1.below); have sc0 := A8.out.1; have sc1 := A8.out.2.1)
            | (refine step_append_num _ (by rfl) _ _ 25 (by rfl) w6.heap.size i3 Try.underlying25 qi q0 q1 q2 (.slice (some ⟨w6.heap.size, 0, none⟩) 0 0) 0 [] (by rfl) (by exact World.ownsRow_made w6 #[] 0 (Nat.le_refl _) (by decide) rfl) (.slice aa sa.cells.length ca) sa.cells (by rfl) (by exact AA.out.2.2.1) NA.out (by simp) (by have := oka.out.2; omega) (by simp <;> omega) ?_; intro u1 w7 hown1 hgrow1 hnil1; obtain ⟨gu, cu1, rfl⟩ := form_of hown1 hnil1; simp only [Nat.zero_add, List.nil_append] at hown1 ⊢; have hgrow1' : (w6.alloc (.cells #[] 3)).grownBy w7 (some w6.heap.size) := ⟨hgrow1.os, hgrow1.tape, hgrow1.output, hgrow1.size, hgrow1.block⟩; have hb7 : Below w6.heap.size w6 w7 := (up_alloc w6 (.cells #[] 3)).grown hgrow1' (by simp <;> omega) (fun k hk => by simp at hk; omega); have A7 := Lib.hid (AB.out.below hb7); have sb0 := A7.out.1; have sb1 := A7.out.2.1; have HTN := Lib.hid (TBox.new (s := sa) hb7 hown1); have A8 := Lib.hid (AB.out.below HTN.out.below); have sc0 := A8.out.1; have sc1 := A8.out.2.1; have A9 := Lib.hid (A7.out.below (up_alloc w7 (.cells #[.int .i64 0, .slice none 0 0] 27))); have sd0 := A9.out.1; have sd1 := A9.out.2.1)
            | (refine step_append_num _ (by rfl) _ _ 25 (by rfl) w6.heap.size i3 Try.underlying25 qi q0 q1 q2 (.slice (some ⟨w6.heap.size + 1, 0, none⟩) 0 0) 0 [] (by rfl) (by exact (by have hz : (w6.alloc (.cells #[.int .i64 0, .slice none 0 0] 27)).heap.size = w6.heap.size + 1 := (by simp); have hm : ((w6.alloc (.cells #[.int .i64 0, .slice none 0 0] 27)).alloc (.cells #[] 3)).ownsRow w6.heap.size 3 1 (.slice (some ⟨(w6.alloc (.cells #[.int .i64 0, .slice none 0 0] 27)).heap.size, 0, none⟩) 0 0) 0 [] := World.ownsRow_made (w6.alloc (.cells #[.int .i64 0, .slice none 0 0] 27)) #[] 0 (by simp) (by decide) rfl; rw [hz] at hm; exact hm)) (.slice aa sa.cells.length ca) sa.cells (by rfl) (by exact AAB.out.2.2.1) NA.out (by simp) (by have := oka.out.2; omega) (by simp <;> omega) ?_; intro u1 w7 hown1 hgrow1 hnil1; obtain ⟨gu, cu1, rfl⟩ := form_of hown1 hnil1; simp only [Nat.zero_add, List.nil_append] at hown1 ⊢; have hgrow1' : ((w6.alloc (.cells #[.int .i64 0, .slice none 0 0] 27)).alloc (.cells #[] 3)).grownBy w7 (some (w6.heap.size + 1)) := ⟨hgrow1.os, hgrow1.tape, hgrow1.output, hgrow1.size, hgrow1.block⟩; have HT := Lib.hid (TBox.old (s := sa) (bt := w6.heap.size) ((up_alloc w6 (.cells #[.int .i64 0, .slice none 0 0] 27)).alloc (by simp) (.cells #[] 3)) hgrow1' (by simp) (by rw [Below.heap_alloc _ _ _ (by simp)]; exact heap_alloc_new _ _) (by omega) (by simp) hown1); have h7 := HT.out.2; have y0 : w7.cell? ⟨w6.heap.size, 0, none⟩ = some (.int .i64 0) := (by simp only [World.cell?, h7]; rfl); have y1 : w7.cell? ⟨w6.heap.size, 1, none⟩ = some (.slice none 0 0) := (by simp only [World.cell?, h7]; rfl); have z0 : w7.frozen? ⟨w6.heap.size, 0, none⟩ = false := (by simp only [World.frozen?, h7]; rfl); have z1 : w7.frozen? ⟨w6.heap.size, 1, none⟩ = false := (by simp only [World.frozen?, h7]; rfl); have hb7 : Below w6.heap.size w6 w7 := ((up_alloc w6 (.cells #[.int .i64 0, .slice none 0 0] 27)).alloc (by simp) (.cells #[] 3)).grown hgrow1' (by simp <;> omega) (fun k hk => by simp at hk; omega); have A7 := Lib.hid (AB.out.below hb7); have sb0 := A7.out.1; have sb1 := A7.out.2.1; have A8 := Lib.hid (AB.out.below HT.out.1.below); have sc0 := A8.out.1; have sc1 := A8.out.2.1))
        all_goals
          go_wp2_with fail
          go_meet
          case rel => first | exact ⟨_, rfl, HT.out.1⟩ | exact ⟨_, rfl, HTN.out⟩
      case rest =>
        obtain ⟨bt, rfl, aT, cT, hbt, hb, hbox, hoT⟩ := hcut
        obtain ⟨w8, hw8⟩ : ∃ w8, w8 = wc := ⟨_, rfl⟩
        rw [← hw8] at hb hbox hoT ⊢
        clear hw8
        have N6 := Lib.hid hb
        have h68 := hb.size
        have HTB := Lib.hid hbox
        have HTO := Lib.hid hoT
        have hb0 := lt_of_block hbox
        have tc0 : w8.cell? ⟨bt, 0, none⟩ = some (.int .i64 sa.pred) := by simp only [World.cell?, hbox]; rfl
        have tc1 : w8.cell? ⟨bt, 1, none⟩ = some (.slice aT sa.cells.length cT) := by simp only [World.cell?, hbox]; rfl
        clear hb hbox hoT q1k
        go_wp2_with fail
        generalize hx : w8.alloc (.cells #[.int .i64 sa.pred, .slice aT sa.cells.length cT] 27) = y8
        have hb : Below w8.heap.size w8 y8 := by rw [← hx]; exact up_alloc _ _
        have HSL : Hid (ShpsAt y8 y8.heap.size (.slice (some ⟨w8.heap.size, 0, none⟩) 1 1) [sa]) := by
          refine ⟨_, 1, rfl, .inr ⟨w8.heap.size, 0, rfl, by rw [← hx]; simp, fun j s hj => ?_⟩⟩
          have hj0 : j = 0 := by have := (List.getElem?_eq_some_iff.1 hj).1; simp at this; exact this
          subst hj0
          simp only [List.getElem?_cons_zero, Option.some.injEq] at hj
          subst hj
          exact ⟨.slice aT sa.cells.length cT, by rw [← hx]; simp, by rw [← hx]; simp, ((HTO.out.at).below hb).mono hb.size, HTO.out.nilly⟩
        replace N6 := Lib.hid (N6.out.trans (hb.mono h68))
        replace HTB := Lib.hid ((hb.block bt hb0).trans HTB.out)
        replace HTO := Lib.hid (HTO.out.up hb)
        have h8y := hb.size
        clear hx hb tc0 tc1 QB AB NW
        refine (new_any [sa] _ y8 HSL.out (fun a n c e => by simp only [Value.slice.injEq] at e; omega) (fun s hs => by rw [List.mem_singleton] at hs; subst hs; exact oka.out) (by simp)).mono ?_
        rintro e w9 (⟨hbad, _⟩ | ⟨_, G, X, mv, ms, rfl, hnet, hb, hG0⟩)
        · rw [HNB.out] at hbad; cases hbad
        · replace N6 := Lib.hid (N6.out.trans (hb.mono N6.out.size))
          replace HTB := Lib.hid ((hb.block bt (Nat.lt_of_lt_of_le hb0 h8y)).trans HTB.out)
          have htlt : ∀ k, (Value.slice aT sa.cells.length cT).ownBlock = some k → w6.heap.size ≤ k ∧ k < y8.heap.size := fun k hk => World.ownsRow.lt HTO.out k hk
          replace HTO := Lib.hid (HTO.out.up hb)
          have HN := Lib.hid hnet
          have HG0 := Lib.hid hG0
          have HTL := Lib.hid htlt
          have hy9 := hb.size
          have htne : (Value.slice aT sa.cells.length cT).ownBlock ≠ some bt := by
            intro e
            rcases HTO.out.2 with ⟨h1, _⟩ | ⟨g, cap, cur, h1, _, h2, _⟩
            · rw [h1] at e; simp [Value.ownBlock] at e
            · rw [h1] at e
              have e2 : g = bt := by simpa [Value.ownBlock] using e
              subst e2
              have := HTB.out
              rw [this] at h2; simp at h2
          have HTN := Lib.hid htne
          have hb9 := lt_of_block HTB.out
          clear hb hnet hG0 HSL HNB htlt htne
          go_wp2
          go_loopw [12] (fun k wr => ∃ (i : Nat) (lT : List Int), k = .int .i64 (i : Int) ∧ i ≤ sa.cells.length ∧ lT.length = sa.cells.length ∧ Hid (OwnInts wr w6.heap.size (.slice aT sa.cells.length cT) lT) ∧ Hid (w9.grownBy wr (Value.slice aT sa.cells.length cT).ownBlock)) (fun k _ => sa.cells.length - (intOf k).toNat)
          case atStart => exact ⟨0, sa.cells, rfl, Nat.zero_le _, rfl, HTO, Lib.hid ⟨rfl, rfl, rfl, Nat.le_refl _, fun _ _ _ => rfl⟩⟩
          case round =>
            obtain ⟨i, lT, rfl, hil, hlT, HO, HGR⟩ := hrel
            have hbx : wr.heap[bt]? = _ := (HGR.out.block bt hb9 (fun e => HTN.out e.symm)).trans HTB.out
            have tc1 : wr.cell? ⟨bt, 1, none⟩ = some (.slice aT sa.cells.length cT) := by simp only [World.cell?, hbx]; rfl
            clear hbx
            by_cases h1 : i < sa.cells.length
            · obtain ⟨gT, hgT⟩ : ∃ g, aT = some ⟨g, 0, none⟩ := by
                rcases Joins.ownsRow_forms HO.out with ⟨h2, h3⟩ | ⟨g, cap, h2⟩
                · omega
                · simp only [Value.slice.injEq] at h2; exact ⟨g, h2.1⟩
              subst hgT
              have hown := HO.out
              rw [← hlT] at hown
              have hc := OwnInts.cell hown (show i < lT.length by omega)
              rw [Nat.zero_add] at hc
              have hf := World.ownsRow.frozenAt hown i
              have hst := World.ownsRow.stored hown i (.int .i64 (999999 + (i : Int)))
              have hw : IntKind.i64.wrap (999999 + (i : Int)) = 999999 + (i : Int) := by rw [IntKind.wrap_i64]; have := oka.out.2; omega
              have HO2 : Hid (OwnInts (wr.setCell ⟨gT, i, none⟩ (.int .i64 (999999 + (i : Int)))) w6.heap.size (.slice (some ⟨gT, 0, none⟩) sa.cells.length cT) (lT.set i (999999 + (i : Int)))) := by
                unfold Hid OwnInts; rw [← lits_set, List.length_set, ← hlT]; exact hst.1
              have HG2 : Hid (w9.grownBy (wr.setCell ⟨gT, i, none⟩ (.int .i64 (999999 + (i : Int)))) (Value.slice (some ⟨gT, 0, none⟩) sa.cells.length cT).ownBlock) := HGR.out.trans hst.2
              have hl2 : (lT.set i (999999 + (i : Int))).length = sa.cells.length := by rw [List.length_set]; exact hlT
              have hq := oka.out.2
              clear hown hst
              go_wp2
              go_roundw
              case rel => exact ⟨i + 1, _, by go_num, by omega, hl2, HO2, HG2⟩
              case measure => simp only [intOf]; omega
            · obtain ⟨w10, hw10⟩ : ∃ w10, w10 = wr := ⟨_, rfl⟩
              rw [← hw10] at HGR tc1 ⊢
              clear hw10 HO
              have h910 := HGR.out.size
              have HN10 : Hid (MNet w10 G X mv ms [sa] (fun _ => []) 0) := HN.out.keep h910 (fun k hk => HGR.out.block k (HN.out.lt hk) (fun e => hk (HG0.out k (HTL.out k e.symm).2)))
              replace N6 := Lib.hid (N6.out.grown HGR.out N6.out.size (fun k hk => (HTL.out k hk).1))
              have QB := Lib.hid (QB6.out.below N6.out)
              have AB := Lib.hid (AB6.out.below N6.out)
              have NW := Lib.hid (NW6.out.trans (N6.out.mono NW6.out.size))
              have q0k := QB.out.1
              have q1k := QB.out.2.1
              clear HGR HN HTL HTN HTB HTO
              go_wp2_with fail
              refine (HFL.out w10 _ QB.out.2.2.1).mono ?_
              rintro e wS ⟨lv, rfl, hlv, hb⟩
              obtain ⟨al, cl, rfl⟩ := own_len hlv
              replace QB := Lib.hid (QB.out.below hb)
              replace AB := Lib.hid (AB.out.below hb)
              replace NW := Lib.hid (NW.out.trans (hb.mono NW.out.size))
              have HLV := Lib.hid hlv
              have A0 := Lib.hid (Ap.start (HN10.out.up hb))
              have hzS := hb.size
              have N6S := Lib.hid (N6.out.trans (hb.mono N6.out.size))
              have HGZ : Hid (∀ k, w10.heap.size ≤ k → G k = 0) := HN10.out.zero
              have hwb : w1.heap.size < w6.heap.size := QB6.out.2.2.2
              clear hb hlv HFL q0k q1k QB AB
              go_wp2
              go_loopw [14, 15] (fun q k wr => ∃ (o : Value) (i : Nat) (G' T : Nat → Nat) (vs : List Value), o = q ∧ k = .int .i64 (i : Int) ∧ i ≤ 3 ∧ Hid (Ap wS G X mv ms sa i (List.replicate i [0]) o wr G' T vs)) (fun _ k _ => 3 - (intOf k).toNat)
              case atStart => exact ⟨_, 0, G, _, _, rfl, rfl, by omega, A0⟩
              case round =>
                obtain ⟨v, i, G', T, vs, rfl, rfl, hi3, HA⟩ := hrel
                by_cases h1 : i < 3
                · have hB6 : Hid (Below w6.heap.size wS wr) := HA.out.turned.below N6S.out.size (fun k hk => by rw [HG0.out k (by omega)]; decide)
                  have N6r := Lib.hid (N6S.out.trans hB6.out)
                  have HLr := Lib.hid (HLV.out.turned HA.out.turned (fun k hk => by rw [HGZ.out k hk]; decide))
                  have HLN := Lib.hid HLr.out.nilly
                  have hwr := HA.out.turned.size
                  go_wp2_with (first
                    | ((fail_if_success (have hchk := HR1)); at_builtin; refine wpList_append_num _ rfl _ _ 25 rfl wr.heap.size i3 Try.underlying25 qi q0 q1 q2 (.slice (some ⟨wr.heap.size, 0, none⟩) 0 0) 0 [] rfl (World.ownsRow_made wr #[] 0 (Nat.le_refl _) (by decide) rfl) (.slice al fr.length cl) fr rfl ((HLr.out.at).alloc (Nat.le_refl _) (.cells #[] 3) |>.mono (by simp)) HLN.out (by simp) (by omega) (by simp) ?_; intro r1 wb hr1 hg1 hn1; obtain ⟨gr1, cr1, rfl⟩ := form_of hr1 hn1; simp only [Nat.zero_add, List.nil_append] at hr1 ⊢; have hgb : (wr.alloc (.cells #[] 3)).grownBy wb (some wr.heap.size) := ⟨hg1.os, hg1.tape, hg1.output, hg1.size, hg1.block⟩; have hbb : Below wr.heap.size wr wb := (up_alloc wr (.cells #[] 3)).grown hgb (by simp) (fun k hk => by simp at hk; omega); have HR1 : Hid (OwnInts wb wr.heap.size (.slice (some ⟨gr1, 0, none⟩) fr.length cr1) fr) := hr1; have hbz := hbb.size)
                    | (at_builtin; refine wpList_append_own _ rfl _ _ 25 rfl wr.heap.size 3 i3 (.int .i64 0) 1 8 Try.underlying25 qi q0 q1 q2 rfl (by decide) (.slice (some ⟨gr1, 0, none⟩) fr.length cr1) fr.length (lits fr) rfl (World.ownsRow.alloc HR1.out (.cells #[.int .i64 77] 3)) ⟨wb.heap.size, 0, none⟩ 1 1 [.int .i64 77] rfl rfl (cell_one_new _ _ _) (one_i64 _) (by unfold maxLen; omega) (by omega) (by simp; omega) ?_; intro r2 wc2 hr2 hg2 hn2; obtain ⟨gr, cr, rfl⟩ := Joins.ownsRow_form hr2 (by omega); have HR2 : Hid (OwnInts wc2 wr.heap.size (.slice (some ⟨gr, 0, none⟩) (fr.length + 1) cr) (fr ++ [77])) := (by unfold Hid OwnInts; rw [lits_snoc, List.length_append, List.length_singleton]; exact hr2); have HBC := Lib.hid ((hbb.alloc hbz (.cells #[.int .i64 77] 3)).grown hg2 (by simp; omega) (fun k hk => (World.ownsRow.lt HR1.out k hk).1)); have hcr : (fr.length : Int) ≤ (cr : Int) := (by have := own_cap HR2.out; omega); have QB := Lib.hid (QB6.out.below (N6r.out.trans (HBC.out.mono (Nat.le_trans N6S.out.size hwr)))); have qq0 := QB.out.1))
                  have HRP : Hid (OwnInts wc2 wr.heap.size (.slice (some ⟨gr, 0, none⟩) fr.length cr) fr) := by
                    have h5 := HR2.out
                    unfold OwnInts at h5
                    rw [lits_snoc, List.length_append, List.length_singleton] at h5
                    exact prefix_own h5 (by rw [lits_length, Nat.mul_one])
                  have HA2 := Lib.hid (HA.out.up HBC.out)
                  have hgr : wr.heap.size ≤ gr := (World.ownsRow.lt HRP.out gr rfl).1
                  have hgG : G' gr = 0 := HA.out.net.zero gr hgr
                  have hgT : T gr = 0 := HA.out.tz gr hgr
                  have HAD := Lib.hid (add_yes HA2.out.net (by simp) (fun s hs => by rw [List.mem_singleton] at hs; subst hs; exact oka.out) (fun s hs => by rw [List.mem_singleton] at hs; subst hs; exact HVA.out) (by omega) (fun j _ => by rw [iota_len]; exact Nat.le_refl _) P fr (.slice (some ⟨gr, 0, none⟩) fr.length cr) HRP.out.at
                    (fun _ k hk => by have e : gr = k := (by simpa [Value.ownBlock] using hk); rw [← e, hgG]; decide) (by omega) HQ0.out.1 HNF.out)
                  refine HAD.out.mono ?_
                  rintro e w13 ⟨o, G2, rfl, hA⟩
                  obtain ⟨hA3, hoo, hoT⟩ := HA2.out.add HFA.out hA
                  obtain ⟨go, co, rfl, mc0, hgo1, hgo2⟩ := own_one hoo
                  have HA3 := Lib.hid hA3
                  have HOO := Lib.hid hoo
                  have HOT := Lib.hid hoT
                  have hB613 := hA3.turned.below N6S.out.size (fun k hk => by rw [HG0.out k (by omega)]; decide)
                  have N613 := Lib.hid (N6S.out.trans hB613)
                  have AB13 := Lib.hid (AB6.out.below N613.out)
                  have QB13 := Lib.hid (QB6.out.below N613.out)
                  have HR13 := Lib.hid (HR2.out.turned hA.turned (fun k hk => by rw [HA.out.net.zero k hk]; decide))
                  have HP13 := Lib.hid (HRP.out.turned hA.turned (fun k hk => by rw [HA.out.net.zero k hk]; decide))
                  have HL13 := Lib.hid (HLV.out.turned hA3.turned (fun k hk => by rw [HGZ.out k hk]; decide))
                  have HIN : Hid (Calls Try.prog 21 #[.slice (some ⟨gr, 0, none⟩) fr.length cr, .slice al fr.length cl] w13 (BoolIs w13 true)) := by
                    have h5 := ints_any fr fr _ _ w13 HP13.out.at HL13.out.at (by omega) (by omega)
                    rw [decide_eq_true rfl] at h5
                    exact h5
                  have hgr13 : gr < w13.heap.size := (World.ownsRow.lt HR13.out gr rfl).2
                  have hG2 : G2 gr = 0 := (hA.tags gr (World.ownsRow.lt HRP.out gr rfl).2).trans hgG
                  have hgo : gr < go := by have := (World.ownsRow.lt HRP.out gr rfl).2; omega
                  clear hA hA3 hoo hoT hB613 HAD qq0
                  go_wp2_with fail
                  refine HIN.out.mono ?_
                  rintro e w14 ⟨rfl, hb14⟩
                  have HB14 := Lib.hid hb14
                  have hz14 := hb14.size
                  have AB14 := Lib.hid (AB13.out.below hb14)
                  have QB14 := Lib.hid (QB13.out.below hb14)
                  have a0 := AB14.out.1
                  have a1 := AB14.out.2.1
                  have qq0 := QB14.out.1
                  have HFT : Hid (Calls Try.prog 19 #[.agg #[.int .i64 sa.pred, .slice aa sa.cells.length ca], .int .i64 P, .slice (some ⟨gr, 0, none⟩) fr.length cr] w14 (BoolIs w14 true)) := by
                    have h5 := fits_any sa _ P fr (.slice (some ⟨gr, 0, none⟩) fr.length cr) w14 AB14.out.2.2.1 NA.out oka.out.1 oka.out.2 ((HP13.out.at.below hb14).mono hz14) (by omega)
                    rw [HFA.out] at h5
                    exact h5
                  clear hb14 mc0
                  go_wp2_with fail
                  refine HFT.out.mono ?_
                  rintro e w15 ⟨rfl, hb15⟩
                  have HB15 := Lib.hid (HB14.out.trans (hb15.mono hz14))
                  have hz15 := HB15.out.size
                  have rc : w15.cell? ⟨gr, fr.length, none⟩ = some (.int .i64 77) := by
                    have h5 := HR13.out.up HB15.out
                    have h6 := OwnInts.cell (l := fr ++ [77]) (j := fr.length) (g := gr) (cap := cr) (B := wr.heap.size) (w := w15) (by rw [List.length_append, List.length_singleton]; exact h5) (by simp)
                    rw [Nat.zero_add, at_push_new] at h6
                    exact h6
                  have HA15 := Lib.hid (HA3.out.up HB15.out)
                  have HO15 := Lib.hid ((HOO.out.up HB15.out).mono (B' := wS.heap.size) (by have := HBC.out.size; omega))
                  have hro : w15.ownsRow wS.heap.size 25 1 v i vs := by have h5 := HA15.out.lss.row; rw [List.length_replicate] at h5; exact h5
                  have HRO := Lib.hid hro
                  have hwS15 := HA15.out.turned.size
                  clear hb15 a0 a1 qq0 hro
                  go_wp2_with (at_builtin; refine wpList_append_own_at _ rfl _ _ 85 rfl wS.heap.size 25 i25 (.slice none 0 0) 1 24 Try.underlying85 ti t0 t1 t2 rfl (by decide) v i vs rfl (World.ownsRow.alloc HRO.out (.cells #[.slice (some ⟨go, 0, none⟩) 1 co] 25)) ⟨w15.heap.size, 0, none⟩ 1 1 [.slice (some ⟨go, 0, none⟩) 1 co] rfl rfl (cell_one_new _ _ _) one_list (by unfold maxLen; omega) (by omega) (by simp; omega) ?_; intro v' w16 hown16 hg16 hnl16 hat16; have HPK := Lib.hid (And.intro hown16 (And.intro hg16 hat16)))
                  obtain ⟨T2, hA16, hT2⟩ := HA15.out.more HO15.out (fun b hb => HOT.out b hb) (by rw [List.length_replicate]; exact HPK.out.1) HPK.out.2.1 HPK.out.2.2
                  have hTg : T2 gr = 0 := (hT2 gr (fun e => by have : go = gr := (by simpa [Value.ownBlock] using e); omega)).trans hgT
                  have hrep : List.replicate i [(0 : Int)] ++ [[0]] = List.replicate (i + 1) [0] := List.replicate_succ'.symm
                  rw [hrep] at hA16
                  have HA16 := Lib.hid hA16
                  have HTG := Lib.hid hTg
                  have HR16 : Hid (OwnInts w16 wr.heap.size (.slice (some ⟨gr, 0, none⟩) fr.length cr) fr) :=
                    World.ownsRow.kept (World.ownsRow.alloc (HP13.out.up HB15.out) (.cells #[.slice (some ⟨go, 0, none⟩) 1 co] 25)) HPK.out.2.1 (types_apart (World.ownsRow.alloc (HP13.out.up HB15.out) (.cells #[.slice (some ⟨go, 0, none⟩) 1 co] 25)) (World.ownsRow.alloc HRO.out (.cells #[.slice (some ⟨go, 0, none⟩) 1 co] 25)) (by decide))
                  obtain ⟨Br, hBr⟩ : ∃ Br, Br = wr.heap.size := ⟨_, rfl⟩
                  rw [← hBr] at HR16 hgr
                  have hBS : wS.heap.size ≤ Br := by omega
                  have HG2 := Lib.hid hG2
                  clear hA16 hTg hT2 HPK hown16 hg16 hnl16 hat16 hBr hrep HA15 HO15 HRO HOT HOO HA3 hG2
                  go_loopw [20] (fun q wx => ∃ (j : Nat) (lR : List Int), q = .int .i64 (j : Int) ∧ j ≤ fr.length ∧ lR.length = fr.length ∧ Hid (OwnInts wx Br (.slice (some ⟨gr, 0, none⟩) fr.length cr) lR) ∧ Hid (Ap wS G X mv ms sa (i + 1) (List.replicate (i + 1) [0]) v' wx G2 T2 (vs ++ [.slice (some ⟨go, 0, none⟩) 1 co]))) (fun q _ => fr.length - (intOf q).toNat)
                  case atStart => exact ⟨0, fr, rfl, Nat.zero_le _, rfl, HR16, HA16⟩
                  case round =>
                    obtain ⟨j, lR, rfl, hjl, hlR, HO, HAW⟩ := hrel
                    by_cases h4 : j < fr.length
                    · have hvn : v'.ownBlock ≠ some gr := by
                        rcases types_apart HO.out HAW.out.lss.row (by decide) with h5 | h5
                        · simp [Value.ownBlock] at h5
                        · exact fun e => h5 e.symm
                      have hown := HO.out
                      rw [← hlR] at hown
                      have hc := OwnInts.cell hown (show j < lR.length by omega)
                      rw [Nat.zero_add] at hc
                      have hf := World.ownsRow.frozenAt hown j
                      have hst := World.ownsRow.stored hown j (.int .i64 (888888 + (j : Int)))
                      have HO2 : Hid (OwnInts (wr.setCell ⟨gr, j, none⟩ (.int .i64 (888888 + (j : Int)))) Br (.slice (some ⟨gr, 0, none⟩) fr.length cr) (lR.set j (888888 + (j : Int)))) := by
                        unfold Hid OwnInts; rw [← lits_set, List.length_set, ← hlR]; exact hst.1
                      have HAW2 := Lib.hid (HAW.out.write (a := ⟨gr, j, none⟩) (x := .int .i64 (888888 + (j : Int))) HG2.out HTG.out hvn (by show wS.heap.size ≤ gr; omega))
                      have hl2 : (lR.set j (888888 + (j : Int))).length = fr.length := by rw [List.length_set]; exact hlR
                      clear hown hst hvn
                      go_wp2
                      go_roundw
                      case rel => exact ⟨j + 1, _, by go_num, by omega, hl2, HO2, HAW2⟩
                      case measure => simp only [intOf]; omega
                    · go_wp2
                      go_roundw
                      case rel => exact ⟨_, i + 1, G2, T2, _, rfl, by go_num, by omega, HAW⟩
                      case measure => simp only [intOf]; omega
                · have e : i = 3 := by omega
                  rw [e] at HA
                  clear e
                  clear A0
                  go_wp2
                  go_loopw [14, 21] (fun q k wr => ∃ (o : Value) (i : Nat) (T : Nat → Nat) (vs : List Value), o = q ∧ k = .int .i64 (i : Int) ∧ i ≤ 3 ∧ Hid (Ap wS G X mv ms sa 3 (List.replicate 3 [0] ++ List.replicate i (iota 3)) o wr G' T vs)) (fun _ k _ => 3 - (intOf k).toNat)
                  case atStart => exact ⟨_, 0, T, vs, rfl, rfl, by omega, HA⟩
                  case round =>
                    obtain ⟨v, i, T, vs, rfl, rfl, hi3, HA⟩ := hrel
                    by_cases h5 : i < 3
                    · have HRW : Hid (Calls Try.prog 48 #[.pointer (some ⟨X, 0, none⟩), .int .i64 0] wr (TupIs (iota 3) 0 wr)) := rows_yes HA.out.net (m := 0) (l := iota 3) (by simp) rfl (by rw [iota_len]; decide)
                      go_wp2_with fail
                      refine HRW.out.mono ?_
                      rintro e w17 ⟨u, rfl, hu, hb⟩
                      obtain ⟨gu, cu, rfl⟩ := Joins.ownsRow_form hu (by rw [iota_len]; decide)
                      have hwr := HA.out.turned.size
                      have HA17 := Lib.hid (HA.out.up hb)
                      have hub : ∀ b, (Value.slice (some ⟨gu, 0, none⟩) (iota 3).length cu).ownBlock = some b → T b = 0 ∧ G' b = 0 := fun b hb' => by
                        have h6 := (World.ownsRow.lt hu b hb').1
                        exact ⟨HA.out.tz b h6, HA.out.net.zero b h6⟩
                      have HUB := Lib.hid hub
                      have HU17 := Lib.hid (OwnInts.mono (l := iota 3) hu hwr)
                      have hro : w17.ownsRow wS.heap.size 25 1 v (3 + i) vs := by have h6 := HA17.out.lss.row; rw [List.length_append, List.length_replicate, List.length_replicate] at h6; exact h6
                      have HRO := Lib.hid hro
                      have hz17 := hb.size
                      have hi3l : (iota 3).length = 3 := rfl
                      rw [hi3l] at HUB HU17 ⊢
                      clear hu hb hub hro HRW hi3l
                      go_wp2_with (at_builtin; refine wpList_append_own_at _ rfl _ _ 85 rfl wS.heap.size 25 i25 (.slice none 0 0) 1 24 Try.underlying85 ti t0 t1 t2 rfl (by decide) v (3 + i) vs rfl (World.ownsRow.alloc HRO.out (.cells #[.slice (some ⟨gu, 0, none⟩) 3 cu] 25)) ⟨w17.heap.size, 0, none⟩ 1 1 [.slice (some ⟨gu, 0, none⟩) 3 cu] rfl rfl (cell_one_new _ _ _) one_list (by unfold maxLen; omega) (by omega) (by simp; omega) ?_; intro v' w16 hown16 hg16 hnl16 hat16; have HPK := Lib.hid (And.intro hown16 (And.intro hg16 hat16)))
                      obtain ⟨T2, hA16, _⟩ := HA17.out.more HU17.out (fun b hb => HUB.out b hb) (by rw [List.length_append, List.length_replicate, List.length_replicate]; exact HPK.out.1) HPK.out.2.1 HPK.out.2.2
                      have hrep : (List.replicate 3 [(0 : Int)] ++ List.replicate i (iota 3)) ++ [iota 3] = List.replicate 3 [0] ++ List.replicate (i + 1) (iota 3) := by rw [List.append_assoc, ← List.replicate_succ']
                      rw [hrep] at hA16
                      have HA16 := Lib.hid hA16
                      clear hA16 hown16 hg16 hnl16 hat16 hrep
                      go_roundw
                      case rel => exact ⟨_, i + 1, T2, _, rfl, by go_num, by omega, HA16⟩
                      case measure => simp only [intOf]; omega
                    · have e : i = 3 := by omega
                      rw [e] at HA
                      clear e
                      obtain ⟨w18, hw18⟩ : ∃ x, x = wr := ⟨_, rfl⟩
                      rw [← hw18] at HA ⊢
                      clear hw18
                      replace HA : Hid (Ap wS G X mv ms sa 3 six v w18 G' T vs) := HA
                      obtain ⟨a6, c6, hv6, hg6⟩ := HA.out.lss.form
                      obtain ⟨gl, rfl⟩ := hg6 (by intro h; cases h)
                      have hlen : six.length = 6 := rfl
                      rw [hlen] at hv6
                      subst hv6
                      clear hg6 hlen
                      go_wp2
                      go_loopw [24] (fun k wr => ∃ i : Nat, k = .int .i64 (i : Int) ∧ i ≤ 3 ∧ Hid (Below w18.heap.size w18 wr)) (fun k _ => 3 - (intOf k).toNat)
                      case atStart => exact ⟨0, rfl, by omega, Lib.hid (Below.refl _ _)⟩
                      case round =>
                        obtain ⟨i, rfl, hi3, HB⟩ := hrel
                        have HAR := Lib.hid (HA.out.up HB.out)
                        by_cases h6 : i < 3
                        · obtain ⟨u1, hu1, ho1, _⟩ := HAR.out.lss.get (six_lo h6)
                          obtain ⟨u2, hu2, ho2, _⟩ := HAR.out.lss.get (six_hi h6)
                          have c1 := HAR.out.lss.cell hu1
                          have c2 := HAR.out.lss.cell hu2
                          obtain ⟨g1, k1, rfl⟩ := Joins.ownsRow_form ho1 (by decide)
                          obtain ⟨g2, k2, rfl⟩ := Joins.ownsRow_form ho2 (by decide)
                          have hg1 : gl < wr.heap.size := (World.ownsRow.lt HAR.out.lss.row gl rfl).2
                          have HI1 : Hid (Calls Try.prog 21 #[.slice (some ⟨g1, 0, none⟩) 1 k1, .slice (some ⟨wr.heap.size, 0, none⟩) 1 1] (wr.alloc (.cells #[.int .i64 0] 3)) (BoolIs (wr.alloc (.cells #[.int .i64 0] 3)) true)) :=
                            ints_any [0] [0] _ _ _ ((OwnInts.up (l := [0]) ho1 (up_alloc wr (.cells #[.int .i64 0] 3))).at) (built_one wr 0) (by decide) (by decide)
                          have HO2 : Hid (OwnInts wr wS.heap.size (.slice (some ⟨g2, 0, none⟩) 3 k2) (iota 3)) := ho2
                          clear hu1 hu2 ho1 ho2
                          go_wp2_with fail
                          refine HI1.out.mono ?_
                          rintro e w20 ⟨rfl, hb⟩
                          have hb2 : Below wr.heap.size wr w20 := (up_alloc wr (.cells #[.int .i64 0] 3)).trans (hb.mono (by simp))
                          replace c2 : w20.cell? ⟨gl, i + 3, none⟩ = some (.slice (some ⟨g2, 0, none⟩) 3 k2) := (below_cells hb2 hg1 c2)
                          have HB2 := Lib.hid hb2
                          have HI2 : Hid (Calls Try.prog 21 #[.slice (some ⟨g2, 0, none⟩) 3 k2, .slice (some ⟨w20.heap.size, 0, none⟩) 3 3] (w20.alloc (.cells #[.int .i64 0, .int .i64 1, .int .i64 2] 3)) (BoolIs (w20.alloc (.cells #[.int .i64 0, .int .i64 1, .int .i64 2] 3)) true)) :=
                            ints_any (iota 3) [0, 1, 2] _ _ _ (((HO2.out.up hb2).up (up_alloc w20 (.cells #[.int .i64 0, .int .i64 1, .int .i64 2] 3))).at) (built_three w20 0 1 2) (by decide) (by decide)
                          clear hb hb2 c1
                          go_wp2_with fail
                          refine HI2.out.mono ?_
                          rintro e w21 ⟨rfl, hb⟩
                          have hb3 : Below w20.heap.size w20 w21 := (up_alloc w20 (.cells #[.int .i64 0, .int .i64 1, .int .i64 2] 3)).trans (hb.mono (by simp))
                          have HB3 := Lib.hid (HB.out.trans ((HB2.out.trans (hb3.mono HB2.out.size)).mono HB.out.size))
                          clear hb hb3 c2
                          go_wp2
                          go_roundw
                          case rel => exact ⟨i + 1, by go_num, by omega, HB3⟩
                          case measure => simp only [intOf]; omega
                        · obtain ⟨w21, hw21⟩ : ∃ x, x = wr := ⟨_, rfl⟩
                          rw [← hw21] at HAR ⊢
                          clear hw21 HB
                          have HRW : Hid (Calls Try.prog 48 #[.pointer (some ⟨X, 0, none⟩), .int .i64 0] w21 (TupIs (iota 3) 0 w21)) := rows_yes HAR.out.net (m := 0) (l := iota 3) (by simp) rfl (by rw [iota_len]; decide)
                          go_wp2_with fail
                          refine HRW.out.mono ?_
                          rintro e w22 ⟨u, rfl, hu, hb⟩
                          obtain ⟨gu, cu, rfl⟩ := Joins.ownsRow_form hu (by rw [iota_len]; decide)
                          have HU : Hid (OwnInts w22 w21.heap.size (.slice (some ⟨gu, 0, none⟩) 3 cu) (iota 3)) := hu
                          have HA22 := Lib.hid (HAR.out.up hb)
                          have hul := World.ownsRow.lt hu gu rfl
                          have hzz := HAR.out.turned.size
                          have hTu : T gu = 0 := HAR.out.tz gu hul.1
                          have hul2 := hul.2
                          have HAL := Lib.hid (alone_any w22 wS.heap.size T _ vs six HA22.out.lss (Nat.le_trans hzz hb.size) (by decide) six_short)
                          have hi3l : (iota 3).length = 3 := rfl
                          rw [hi3l]
                          clear hu hb hul hi3l
                          go_wp2_with fail
                          refine HAL.out.mono ?_
                          rintro e w23 ⟨rfl, hT⟩
                          have HT := Lib.hid hT
                          have HU3 : Hid (OwnInts w23 w21.heap.size (.slice (some ⟨gu, 0, none⟩) 3 cu) (iota 3)) := row_keep HU.out (fun k hk => by
                            have e : gu = k := by simpa [Value.ownBlock] using hk
                            subst e
                            exact hT.block gu hul2 (by show T gu + 1 < 2; omega))
                          have HI3 : Hid (Calls Try.prog 21 #[.slice (some ⟨gu, 0, none⟩) 3 cu, .slice (some ⟨w23.heap.size, 0, none⟩) 3 3] (w23.alloc (.cells #[.int .i64 0, .int .i64 1, .int .i64 2] 3)) (BoolIs (w23.alloc (.cells #[.int .i64 0, .int .i64 1, .int .i64 2] 3)) true)) :=
                            ints_any (iota 3) [0, 1, 2] _ _ _ ((HU3.out.up (up_alloc w23 (.cells #[.int .i64 0, .int .i64 1, .int .i64 2] 3))).at) (built_three w23 0 1 2) (by decide) (by decide)
                          clear hT
                          go_wp2_with fail
                          refine HI3.out.mono ?_
                          rintro e w24 ⟨rfl, hb⟩
                          have hb4 : Below w23.heap.size w23 w24 := (up_alloc w23 (.cells #[.int .i64 0, .int .i64 1, .int .i64 2] 3)).trans (hb.mono (by simp))
                          have HF : Hid (Below w.heap.size w w24) := by
                            have h1 : Turned G wS w22 := HA22.out.turned
                            have h2 : Below w6.heap.size wS w22 := h1.below N6S.out.size (fun k hk => by rw [HG0.out k (by omega)]; decide)
                            have h3 : Below w6.heap.size w22 w23 := HT.out.below (Nat.le_trans N6S.out.size h1.size) (fun k hk => by
                              show T k + 1 < 2
                              rw [HA22.out.tl k (Nat.lt_of_lt_of_le hk N6S.out.size)]; decide)
                            have h4 : Below w6.heap.size w6 w24 := N6S.out.trans (h2.trans (h3.trans (hb4.mono (Nat.le_trans N6S.out.size (Nat.le_trans h1.size HT.out.size)))))
                            exact NW6.out.trans (h4.mono NW6.out.size)
                          clear hb hb4
                          go_wp2
                          go_ret
                          exact ⟨rfl, HF.out⟩

theorem apart_at (v0 : Value) (x0 : Int × List Slt) {w : World} (h0 : PatArg w v0 x0) (x : Int) (_ : -9223372036854775808 ≤ x ∧ x ≤ 9223372036854775807) :
    Calls Try.prog 12 #[v0, .int .i64 x] w fun e w' => e = .returned (.bool true) ∧ Below w.heap.size w w' := apart_row v0 x0 h0 x

end Go.Proofs.Ytlandkindbmbfaa
