/-
  The walks of alpha's Distinct and of what it calls (same, stands, slices.Equal, IndexFunc, ContainsFunc): the patterns' shapes, each once. Conditions: the numbers are ints, the lists within the form's own reach.
-/
import Derived.Test.YtlandkindbmbfaaK5
import Derived.Test.YtlandkindbmbfaaPlain6
namespace Go.Proofs.Ytlandkindbmbfaa
open Go.RowKit Plain

set_option maxRecDepth 100000 in
set_option maxHeartbeats 1600000 in
theorem equal_any (l m : List Int) (v u : Value) (w : World) (hv : IntsAt w w.heap.size v l) (hu : IntsAt w w.heap.size u m) (hl : l.length ≤ 35184372088832) (hm : m.length ≤ 35184372088832) :
    Calls Try.prog 70 #[v, u] w (BoolIs w (decide (l = m))) := by
  obtain ⟨V, hV⟩ : ∃ V, V = decide (l = m) := ⟨_, rfl⟩
  rw [← hV]
  have HV := Lib.hid hV
  clear hV
  obtain ⟨a, c, rfl, ha⟩ := hv
  obtain ⟨b, d, rfl, hb⟩ := hu
  by_cases hlm : l.length = m.length
  · rw [← hlm]
    rw [← hlm] at hb
    clear hm
    by_cases h0 : l = []
    · subst h0
      have hm0 : m = [] := List.length_eq_zero_iff.1 (by simpa using hlm.symm)
      subst hm0
      have HR := Lib.hid (show V = true by rw [HV.out]; rfl)
      clear ha hb hlm HV
      go_enter Try.func70, Try.ntmps70
      go_wp2
      refine wp_loop_rounds 1 ?_
      rw [rounds_succ]
      go_wp2
      go_ret
      exact ⟨ret_bool HR.out.symm, Below.refl _ _⟩
    · have h0' : m ≠ [] := fun e => h0 (List.length_eq_zero_iff.1 (by rw [hlm, e]; rfl))
      obtain ⟨g, off, rfl, hg, hc⟩ := ha.resolve_left h0
      obtain ⟨h, off2, rfl, hh, hd⟩ := hb.resolve_left h0'
      have HLM := Lib.hid hlm
      have hne : ((l.length : Int) != (l.length : Int)) = false := by simp
      clear ha hb h0 h0' hlm
      go_enter Try.func70, Try.ntmps70
      go_wp2
      clear hne
      go_loopw [13] (fun k wr => ∃ i : Nat, k = .int .i64 (i : Int) ∧ i ≤ l.length ∧ Below w.heap.size w wr ∧ Hid (EqTo l m i)) (fun k _ => l.length - (intOf k).toNat)
      case atStart => exact ⟨0, rfl, Nat.zero_le _, Below.refl _ _, EqTo.start l m⟩
      case round =>
        obtain ⟨i, rfl, hil, hnx, hE⟩ := hrel
        by_cases h1 : i < l.length
        · obtain ⟨x, hx⟩ : ∃ x, x = at' l i := ⟨_, rfl⟩
          obtain ⟨y, hy⟩ : ∃ y, y = at' m i := ⟨_, rfl⟩
          have hA : wr.cell? ⟨g, off + i, none⟩ = some (.int .i64 x) := by rw [hx]; exact (hnx.cell (p := ⟨g, off + i, none⟩) hg).trans (hc i h1)
          have hB : wr.cell? ⟨h, off2 + i, none⟩ = some (.int .i64 y) := by rw [hy]; exact (hnx.cell (p := ⟨h, off2 + i, none⟩) hh).trans (hd i h1)
          have h3 : (i : Int) < (l.length : Int) := by omega
          by_cases he : x = y
          · have HE := Lib.hid (hE.out.round hx hy he)
            have hb : (x != x) = false := by simp
            subst he
            clear hx hy hc hd hE
            go_wp2_with fail
            go_quiet (fail)
            generalize hW : wr.drewN _ = w2
            have hnx2 : Below w.heap.size w w2 := by rw [← hW]; exact below_drewN hnx
            clear hW hA hB hnx hb
            go_wp2
            go_roundw
            case rel => exact ⟨i + 1, by go_num, by omega, hnx2, HE.out⟩
            case measure => simp only [intOf]; omega
          · have HR := Lib.hid (show V = false by rw [HV.out]; exact decide_at hx hy he)
            have hb : (x != y) = true := by simpa using he
            clear hx hy hc hd hE he HV
            go_wp2_with fail
            go_quiet (fail)
            generalize hW : wr.drewN _ = w2
            have hnx2 : Below w.heap.size w w2 := by rw [← hW]; exact below_drewN hnx
            clear hW hA hB hnx
            go_wp2
            go_ret
            exact ⟨ret_bool HR.out.symm, hnx2⟩
        · have e : i = l.length := by omega
          have HR := Lib.hid (show V = true by rw [HV.out]; exact decide_eq_true (eq_of_at HLM.out (by rw [← e]; exact hE.out)))
          clear e
          go_wp2
          go_ret
          exact ⟨ret_bool HR.out.symm, hnx⟩
  · have HR := Lib.hid (show V = false by rw [HV.out]; exact decide_len hlm)
    have hne : ((l.length : Int) != (m.length : Int)) = true := by simp; omega
    clear ha hb hlm HV
    go_enter Try.func70, Try.ntmps70
    go_wp2
    go_ret
    exact ⟨ret_bool HR.out.symm, Below.refl _ _⟩


set_option maxRecDepth 100000 in
set_option maxHeartbeats 1600000 in
theorem asame_any (s t : Shp) (x y : Value) (w : World) (hx : ShpAt w w.heap.size x s) (hy : ShpAt w w.heap.size y t) (hs : Okay s) (ht : Okay t) :
    Calls Try.prog 67 #[x, y] w (BoolIs w (sameB s t)) := by
  obtain ⟨u, rfl, hu⟩ := hx
  obtain ⟨v, rfl, hv⟩ := hy
  obtain ⟨a, ca, rfl, _⟩ := id hu
  obtain ⟨b, cb, rfl, _⟩ := id hv
  have hls := hs.len
  have hlt := ht.len
  obtain ⟨W0, hW0⟩ : ∃ W0, W0 = (w.alloc (.cells #[.int .i64 s.pred, .slice a s.cells.length ca] 27)).alloc (.cells #[.int .i64 t.pred, .slice b t.cells.length cb] 27) := ⟨_, rfl⟩
  have hz0 : W0.heap.size = w.heap.size + 2 := by rw [hW0]; simp
  have HB0 := Lib.hid (show Below w.heap.size w W0 by rw [hW0]; exact ((Below.refl _ _).alloc (Nat.le_refl _) _).alloc (by simp) _)
  have HI := Lib.hid (equal_any s.cells t.cells _ _ W0 ((hu.below HB0.out).mono (by omega)) ((hv.below HB0.out).mono (by omega)) hls hlt)
  clear hu hv
  by_cases hp : s.pred = t.pred
  · have hpn : (s.pred == t.pred) = true := by simp [hp]
    have HR := Lib.hid (show decide (s.cells = t.cells) = sameB s t by unfold sameB; rw [decide_eq_true hp]; rfl)
    clear hp
    go_enter Try.func67, Try.ntmps67
    go_wp2_with fail
    rw [← hW0]
    clear hW0
    refine HI.out.mono ?_
    rintro e w1 ⟨rfl, hb1⟩
    rw [HR.out]
    go_wp2
    go_ret
    exact ⟨rfl, HB0.out.trans (hb1.mono (by omega))⟩
  · have hpn : (s.pred == t.pred) = false := by simpa using hp
    have HR := Lib.hid (sameB_pred hp)
    clear hp HI
    go_enter Try.func67, Try.ntmps67
    go_wp2
    go_ret
    refine ⟨ret_bool HR.out.symm, ?_⟩
    rw [← hW0]; exact HB0.out


set_option maxRecDepth 100000 in
set_option maxHeartbeats 1600000 in
theorem closure_any (s t : Shp) (x vs : Value) (X : Nat) (w : World) (hx : ShpAt w w.heap.size x t) (hb : ShBox w X s vs) (hs : Okay s) (ht : Okay t) :
    Calls Try.prog 66 #[x, .pointer (some ⟨X, 0, none⟩)] w (BoolIs w (sameB s t)) := by
  obtain ⟨u, rfl, hu⟩ := hx
  obtain ⟨a, ca, rfl, _⟩ := id hu
  obtain ⟨b, cb, rfl, _⟩ := id hb.2.2.1
  obtain ⟨W0, hW0⟩ : ∃ W0, W0 = w.alloc (.cells #[.int .i64 t.pred, .slice a t.cells.length ca] 27) := ⟨_, rfl⟩
  have hz0 : W0.heap.size = w.heap.size + 1 := by rw [hW0]; simp
  have HB0 := Lib.hid (show Below w.heap.size w W0 by rw [hW0]; exact up_alloc _ _)
  have HX := Lib.hid (hb.below HB0.out)
  have HU := Lib.hid ((hu.below HB0.out).mono (show w.heap.size ≤ W0.heap.size by omega))
  have k0 : (w.alloc (.cells #[.int .i64 t.pred, .slice a t.cells.length ca] 27)).cell? ⟨X, 0, none⟩ = some (.int .i64 s.pred) := by rw [← hW0]; exact HX.out.1
  have k1 : (w.alloc (.cells #[.int .i64 t.pred, .slice a t.cells.length ca] 27)).cell? ⟨X, 1, none⟩ = some (.slice b s.cells.length cb) := by rw [← hW0]; exact HX.out.2.1
  clear hu hb
  go_enter Try.func66, Try.ntmps66
  go_wp2_with fail
  rw [← hW0]
  clear hW0 k0 k1
  refine (asame_any s t _ _ W0 ⟨_, rfl, HX.out.2.2.1⟩ ⟨_, rfl, HU.out⟩ hs ht).mono ?_
  rintro e w1 ⟨rfl, hb1⟩
  go_wp2
  go_ret
  exact ⟨rfl, HB0.out.trans (hb1.mono (by omega))⟩

def IndexIs (ss : List Shp) (s : Shp) (w : World) (e : Ending) (w' : World) : Prop := ∃ k : Int, e = .returned (.int .i64 k) ∧ decide (0 ≤ k) = standsB ss s ∧ -1 ≤ k ∧ k ≤ ss.length ∧ Below w.heap.size w w'

set_option maxRecDepth 100000 in
set_option maxHeartbeats 1600000 in
theorem index_any (ss : List Shp) (v : Value) (s : Shp) (vs : Value) (X : Nat) (w : World) (hv : ShpsAt w w.heap.size v ss) (hss : Okays ss) (hn : ss.length ≤ 4398046510976) (hb : ShBox w X s vs) (hs : Okay s) :
    Calls Try.prog 69 #[v, .func (.func 66) #[] #[.pointer (some ⟨X, 0, none⟩)]] w (IndexIs ss s w) := by
  obtain ⟨a, ca, rfl, ha⟩ := hv.form
  have HV := Lib.hid hv
  have HA := Lib.hid ha
  have HX := Lib.hid hb
  clear hv ha hb
  go_enter Try.func69, Try.ntmps69
  go_wp2
  go_loopw [8] (fun k wr => ∃ i : Nat, k = .int .i64 (i : Int) ∧ i ≤ ss.length ∧ Below w.heap.size w wr ∧ Hid (NoTo ss s i)) (fun k _ => ss.length - (intOf k).toNat)
  case atStart => exact ⟨0, rfl, Nat.zero_le _, Below.refl _ _, NoTo.start _ _⟩
  case round =>
    obtain ⟨i, rfl, hil, hnx, hE⟩ := hrel
    have NX := Lib.hid hnx
    clear hnx
    by_cases h1 : i < ss.length
    · obtain ⟨g, off, rfl⟩ := HA.out (ne_of_lt_len h1)
      obtain ⟨t, hti⟩ : ∃ t, ss[i]? = some t := ⟨ss[i]'h1, List.getElem?_eq_getElem h1⟩
      obtain ⟨hg, x, c0, c1, hx, _⟩ := ShpsAt.get (HV.out.below NX.out) hti
      have hok := hss t (List.mem_of_getElem? hti)
      have HXI := Lib.hid (hx.mono NX.out.size)
      have HTI := Lib.hid hti
      obtain ⟨ax, cx, rfl, _⟩ := HXI.out
      clear hx hti
      go_wp2_with fail
      refine (closure_any s t _ vs X wr ⟨_, rfl, HXI.out⟩ (HX.out.below NX.out) hs hok.1).mono ?_
      rintro e w2 ⟨rfl, hb2⟩
      have NX2 := Lib.hid (NX.out.trans (hb2.mono NX.out.size))
      clear hb2 c0 c1
      cases hst : sameB s t with
      | true =>
        have HR := Lib.hid (stands_yes HTI.out hst)
        clear hst
        go_wp2
        go_ret
        exact ⟨(i : Int), rfl, by rw [HR.out]; simp, by omega, by omega, NX2.out⟩
      | false =>
        have HE := Lib.hid (hE.out.round HTI.out hst)
        clear hst hE
        go_wp2
        go_roundw
        case rel => exact ⟨i + 1, by go_num, by omega, NX2.out, HE.out⟩
        case measure => simp only [intOf]; omega
    · have e : i = ss.length := by omega
      have HR := Lib.hid (stands_no (by rw [← e]; exact hE.out))
      clear e hE
      go_wp2
      go_ret
      exact ⟨-1, rfl, by rw [HR.out]; rfl, by omega, by omega, NX.out⟩

set_option maxRecDepth 100000 in
set_option maxHeartbeats 1600000 in
theorem contains_any (ss : List Shp) (v : Value) (s : Shp) (vs : Value) (X : Nat) (w : World) (hv : ShpsAt w w.heap.size v ss) (hss : Okays ss) (hn : ss.length ≤ 4398046510976) (hb : ShBox w X s vs) (hs : Okay s) :
    Calls Try.prog 65 #[v, .func (.func 66) #[] #[.pointer (some ⟨X, 0, none⟩)]] w (BoolIs w (standsB ss s)) := by
  go_enter Try.func65, Try.ntmps65
  go_wp2_with fail
  refine (index_any ss v s vs X w hv hss hn hb hs).mono ?_
  rintro e w1 ⟨k, rfl, hk, h1, h2, hb1⟩
  have HK := Lib.hid hk
  clear hk
  by_cases h0 : 0 ≤ k
  · have HR := Lib.hid (show standsB ss s = true by rw [← HK.out]; exact decide_eq_true h0)
    go_wp2
    go_ret
    exact ⟨ret_bool (by rw [HR.out]), hb1⟩
  · have HR := Lib.hid (show standsB ss s = decide (0 ≤ k) from HK.out.symm)
    go_wp2
    go_ret
    exact ⟨ret_bool (by rw [HR.out]), hb1⟩

set_option maxRecDepth 100000 in
set_option maxHeartbeats 1600000 in
theorem stands_any (ss : List Shp) (v : Value) (s : Shp) (u : Value) (w : World) (hv : ShpsAt w w.heap.size v ss) (hss : Okays ss) (hn : ss.length ≤ 4398046510976) (hu : IntsAt w w.heap.size u s.cells) (hs : Okay s) :
    Calls Try.prog 55 #[v, .agg #[.int .i64 s.pred, u]] w (BoolIs w (standsB ss s)) := by
  have hmf : ∀ (fn : Fn) (first cap : Array Value) (w : World), (Instr.makeFunc fn first cap).run Try.prog w = .ok (.func fn first cap) w := fun _ _ _ _ => rfl
  obtain ⟨a, ca, rfl, _⟩ := id hu
  obtain ⟨W0, hW0⟩ : ∃ W0, W0 = w.alloc (.cells #[.int .i64 s.pred, .slice a s.cells.length ca] 27) := ⟨_, rfl⟩
  have HB0 := Lib.hid (show Below w.heap.size w W0 by rw [hW0]; exact up_alloc _ _)
  have HX := Lib.hid (show ShBox W0 w.heap.size s (.slice a s.cells.length ca) by rw [hW0]; exact ShBox.made hu)
  have HV := Lib.hid ((hv.below HB0.out).mono HB0.out.size)
  clear hu hv
  go_enter Try.func55, Try.ntmps55
  go_wp2_with fail
  rw [← hW0]
  clear hW0
  refine (contains_any ss v s _ w.heap.size W0 HV.out hss hn HX.out hs).mono ?_
  rintro e w1 ⟨rfl, hb1⟩
  go_wp2
  go_ret
  exact ⟨rfl, HB0.out.trans (hb1.mono HB0.out.size)⟩

/-! ### Lists of patterns -/
def PatsAt (w : World) (B : Nat) (v : Value) (ps : List Pt) : Prop :=
  ∃ (a : Option Addr) (cap : Nat), v = .slice a ps.length cap ∧ (ps = [] ∨ ∃ g off, a = some ⟨g, off, none⟩ ∧ g < B ∧
    ∀ (j : Nat) (x : Pt), ps[j]? = some x → ∃ u, w.cell? ⟨g, off + j * 2, none⟩ = some (.int .i64 x.1) ∧ w.cell? ⟨g, off + j * 2 + 1, none⟩ = some u ∧ SlotsAt w B u x.2)
def OkPat (x : Pt) : Prop := Bnd x.1 ∧ I64l x.2 ∧ x.2.length ≤ 8796093022000
def OkPats (ps : List Pt) : Prop := ∀ x, x ∈ ps → OkPat x
theorem PatsAt.below {w w' : World} {B : Nat} {v : Value} {ps : List Pt} (h : PatsAt w B v ps) (hb : Below B w w') : PatsAt w' B v ps := by
  obtain ⟨a, cap, rfl, h⟩ := h
  refine ⟨a, cap, rfl, ?_⟩
  rcases h with rfl | ⟨g, off, rfl, hg, hc⟩
  · exact .inl rfl
  · refine .inr ⟨g, off, rfl, hg, fun j s hj => ?_⟩
    obtain ⟨u, h1, h2, h3⟩ := hc j s hj
    exact ⟨u, below_cells hb hg h1, below_cells hb hg h2, h3.below hb⟩
theorem PatsAt.mono {w : World} {B B' : Nat} {v : Value} {ps : List Pt} (h : PatsAt w B v ps) (hb : B ≤ B') : PatsAt w B' v ps := by
  obtain ⟨a, cap, rfl, h⟩ := h
  refine ⟨a, cap, rfl, ?_⟩
  rcases h with rfl | ⟨g, off, rfl, hg, hc⟩
  · exact .inl rfl
  · refine .inr ⟨g, off, rfl, by omega, fun j s hj => ?_⟩
    obtain ⟨u, h1, h2, h3⟩ := hc j s hj
    exact ⟨u, h1, h2, h3.mono hb⟩
theorem PatsAt.get {w : World} {B g off c n : Nat} {ps : List Pt} (h : PatsAt w B (.slice (some ⟨g, off, none⟩) n c) ps) {i : Nat} {x : Pt} (hs : ps[i]? = some x) :
    g < B ∧ ∃ u, w.cell? ⟨g, off + i * 2, none⟩ = some (.int .i64 x.1) ∧ w.cell? ⟨g, off + i * 2 + 1, none⟩ = some u ∧ SlotsAt w B u x.2 := by
  obtain ⟨a, cap, e, h⟩ := h
  simp only [Value.slice.injEq] at e
  obtain ⟨rfl, rfl, rfl⟩ := e
  rcases h with rfl | ⟨g', off', h1, hg, hc⟩
  · simp at hs
  · simp only [Option.some.injEq, Addr.mk.injEq, and_true] at h1
    obtain ⟨rfl, rfl⟩ := h1
    exact ⟨hg, hc i x hs⟩
theorem PatsAt.form {w : World} {B : Nat} {v : Value} {ps : List Pt} (h : PatsAt w B v ps) : ∃ a c, v = .slice a ps.length c ∧ (ps ≠ [] → ∃ g off, a = some ⟨g, off, none⟩) := by
  obtain ⟨a, cap, rfl, h⟩ := h
  refine ⟨a, cap, rfl, fun hn => ?_⟩
  obtain ⟨g, off, h1, _⟩ := h.resolve_left hn
  exact ⟨g, off, h1⟩
theorem shp_okay {x : Pt} (h : OkPat x) : Okay (shp x) ∧ (shp x).cells.length ≤ 17592186044400 := by
  obtain ⟨p, l⟩ := x
  obtain ⟨h1, h2, h3⟩ := h
  by_cases hc : 0 ≤ p ∧ l.all okSlt = true
  · exact shape_okay_big ⟨hc.1, h1.2⟩ hc.2 h2 h3
  · have : shp (p, l) = ⟨-1, []⟩ := by
      unfold shp shapeB
      rw [if_neg]
      simp only [Bool.and_eq_true, decide_eq_true_eq]
      exact hc
    rw [this]
    exact ⟨⟨by simp, by simp, fun j => by simp [at'], by simp⟩, by simp⟩
theorem dist_okays {ps : List Pt} (h : OkPats ps) (i : Nat) : Okays (distB (ps.take i)) := by
  intro s hs
  obtain ⟨x, hx, rfl⟩ := distB_mem hs
  exact shp_okay (h x (List.mem_of_mem_take hx))
theorem OwnShps.up {w w' : World} {B : Nat} {v : Value} {ss : List Shp} (h : OwnShps w B v ss) (hb : Below w.heap.size w w') : OwnShps w' B v ss :=
  h.kept (.inl rfl) ⟨hb.os, hb.tape, hb.output, hb.size, fun k hk _ => hb.block k hk⟩

def DistIs (ps : List Pt) (w : World) (e : Ending) (w' : World) : Prop := ∃ v, e = .returned v ∧ OwnShps w' w.heap.size v (distB ps) ∧ Below w.heap.size w w'
def DistRel (ps : List Pt) (w : World) (v k : Value) (wr : World) : Prop :=
  ∃ (o : Value) (i : Nat), o = v ∧ k = .int .i64 (i : Int) ∧ i ≤ ps.length ∧ Below w.heap.size w wr ∧ OwnShps wr w.heap.size o (distB (ps.take i))

theorem Try.info27' : (Try.prog.info? 27).map (fun i => (i.zero, i.size, i.bytes)) = some (some (.agg #[.int .i64 0, .slice none 0 0]), 2, 32) := by kernel_rfl

set_option maxRecDepth 100000 in
set_option maxHeartbeats 3200000 in
theorem distinct_any (ps : List Pt) (v : Value) (w : World) (hv : PatsAt w w.heap.size v ps) (hps : OkPats ps) (hn : ps.length ≤ 4398046510976) :
    Calls Try.prog 29 #[v] w (DistIs ps w) := by
  obtain ⟨i27, pi, p0, p1, p2⟩ := info_parts Try.info27'
  obtain ⟨a, cap, rfl, ha⟩ := hv.form
  have HV := Lib.hid hv
  have HA := Lib.hid ha
  clear hv ha
  go_enter Try.func29, Try.ntmps29
  go_wp2
  go_loopw [3, 9] (fun v k wr => DistRel ps w v k wr) (fun _ k _ => ps.length - (intOf k).toNat)
  case atStart => exact ⟨_, 0, rfl, rfl, Nat.zero_le _, Below.refl _ _, OwnShps.nil _ _⟩
  case round =>
    obtain ⟨v, i, rfl, rfl, hil, hnx, hown⟩ := hrel
    have NX := Lib.hid hnx
    have hsz := hnx.size
    clear hnx
    by_cases h1 : i < ps.length
    · obtain ⟨g, off, rfl⟩ := HA.out (ne_of_lt_len h1)
      obtain ⟨x, hxi⟩ : ∃ x, ps[i]? = some x := ⟨ps[i]'h1, List.getElem?_eq_getElem h1⟩
      obtain ⟨hg, u, c0, c1, hu⟩ := PatsAt.get (HV.out.below NX.out) hxi
      have hok := hps x (List.mem_of_getElem? hxi)
      have hsok := shp_okay hok
      have HD := Lib.hid (distB_next hxi)
      have hdo := dist_okays hps i
      obtain ⟨acc, hacc⟩ : ∃ acc, acc = distB (ps.take i) := ⟨_, rfl⟩
      rw [← hacc] at hown hdo HD
      have hal : acc.length ≤ i := by rw [hacc]; refine Nat.le_trans (distB_len _) ?_; rw [List.length_take]; omega
      obtain ⟨au, cu, rfl, _⟩ := hu.form
      have HU := Lib.hid (hu.mono hsz)
      have HO := Lib.hid hown
      clear hacc hown hu hxi
      go_wp2_with fail
      generalize hx : wr.alloc (.cells #[.int .i64 x.1, .slice au x.2.length cu] 39) = wa
      have hb : Below wr.heap.size wr wa := by rw [← hx]; exact up_alloc _ _
      have PBx := Lib.hid (show PatBox wa wr.heap.size x.1 x.2 (.slice au x.2.length cu) by rw [← hx]; exact PatBox.made HU.out)
      have NA := Lib.hid (NX.out.trans (hb.mono hsz))
      have OA := Lib.hid (HO.out.up hb)
      clear hx hb c0 c1 NX HO
      refine (shape_big x.1 x.2 _ wa PBx.out.2.2.1 hok.2.1 hok.2.2).mono ?_
      rintro e w2 ⟨vs, rfl, hos, hb2⟩
      obtain ⟨aS, ns, cs, rfl⟩ := hos.form
      have IS := Lib.hid hos.at
      have HOS := Lib.hid (hos.mono NA.out.size)
      have N2 := Lib.hid (NA.out.trans (hb2.mono NA.out.size))
      have O2 := Lib.hid (OA.out.up hb2)
      clear hos hb2 NA OA PBx
      have hshp : shapeB x.1 x.2 = shp x := rfl
      rw [hshp] at IS HOS ⊢
      obtain ⟨s, hs⟩ : ∃ s, s = shp x := ⟨_, rfl⟩
      rw [← hs] at IS HOS hsok ⊢
      have HSX := Lib.hid hs
      have h2z := N2.out.size
      clear hs hshp
      by_cases hp : s.pred < 0
      · have HN := Lib.hid (show distB (ps.take (i + 1)) = acc by rw [HD.out]; exact stepD_neg (by rw [← HSX.out]; exact hp))
        go_wp2_with fail
        generalize hx : w2.alloc (.cells #[.int .i64 s.pred, .slice aS ns cs] 27) = w3
        have hb : Below w2.heap.size w2 w3 := by rw [← hx]; exact up_alloc _ _
        have N3 := Lib.hid (N2.out.trans (hb.mono h2z))
        have O3 := Lib.hid (O2.out.up hb)
        clear hx hb
        go_roundw
        case rel => exact ⟨_, i + 1, rfl, by go_num, by omega, N3.out, by rw [HN.out]; exact O3.out⟩
        case measure => simp only [intOf]; omega
      · go_wp2_with fail
        generalize hx : w2.alloc (.cells #[.int .i64 s.pred, .slice aS ns cs] 27) = w3
        have hb : Below w2.heap.size w2 w3 := by rw [← hx]; exact up_alloc _ _
        have SBx := Lib.hid (show ShBox w3 w2.heap.size s (.slice aS ns cs) by rw [← hx]; exact ShBox.made IS.out)
        have N3 := Lib.hid (N2.out.trans (hb.mono h2z))
        have O3 := Lib.hid (O2.out.up hb)
        have HOS3 := Lib.hid (HOS.out.kept (World.grownBy_alloc w2 (.cells #[.int .i64 s.pred, .slice aS ns cs] 27) none) (lt_of_own HOS.out (.inl rfl)))
        rw [hx] at HOS3
        clear hx hb O2 HOS IS
        refine (stands_any acc v s _ w3 O3.out.at hdo (by omega) SBx.out.2.2.1 hsok.1).mono ?_
        rintro e w4 ⟨rfl, hb4⟩
        have h3z := N3.out.size
        have N4 := Lib.hid (N3.out.trans (hb4.mono h3z))
        have O4 := Lib.hid (O3.out.up hb4)
        have SB4 := Lib.hid (SBx.out.below hb4)
        have HOS4 := Lib.hid (show OwnInts w4 w.heap.size (.slice aS ns cs) s.cells from World.ownsRow.kept HOS3.out ⟨hb4.os, hb4.tape, hb4.output, hb4.size, fun k hk _ => hb4.block k hk⟩ (lt_of_own HOS3.out (.inl rfl)))
        clear hb4 O3 SBx HOS3
        cases hst : standsB acc s with
        | true =>
          have HN := Lib.hid (show distB (ps.take (i + 1)) = acc by rw [HD.out]; exact stepD_old (by rw [← HSX.out]; exact hst))
          clear hst
          go_wp2
          go_roundw
          case rel => exact ⟨_, i + 1, rfl, by go_num, by omega, N4.out, by rw [HN.out]; exact O4.out⟩
          case measure => simp only [intOf]; omega
        | false =>
          have HN := Lib.hid (show distB (ps.take (i + 1)) = acc ++ [s] by rw [HD.out, HSX.out]; exact stepD_yes (by rw [← HSX.out]; omega) (by rw [← HSX.out]; exact hst))
          obtain ⟨vl, hvl, ho, hoi⟩ := O4.out
          have HOI := Lib.hid hoi
          have k0 := SB4.out.1
          have k1 := SB4.out.2.1
          have h4z := N4.out.size
          have hone := one_shape s.pred HOS4.out
          clear hst hoi O4
          go_wp2_with (at_builtin; refine wpList_append_own _ rfl _ _ 22 rfl w.heap.size 27 i27 (.agg #[.int .i64 0, .slice none 0 0]) 2 32 Try.underlying22 pi p0 p1 p2 rfl (by decide) v acc.length (flat acc vl) rfl (ho.alloc _) ⟨w4.heap.size, 0, none⟩ 1 1 [.int .i64 s.pred, .slice aS ns cs] rfl rfl (World.news_of_block (cs := #[.int .i64 s.pred, .slice aS ns cs]) (t := 27) (fr := (0, 0)) (heap_alloc_new w4 _)) hone (by unfold maxLen; omega) (by omega) (by simp; omega) ?_; intro v' w5 hown' hgrow hnl)
          have R := OwnShps.snoc hvl (ho.alloc (.cells #[.int .i64 s.pred, .slice aS ns cs] 27)) (fun j t x e1 e2 => World.ownsRow.alloc (HOI.out j t x e1 e2) _) (World.ownsRow.alloc HOS4.out _) hown' hgrow
          have hbl : Below w.heap.size w w5 := (N4.out.alloc h4z _).grown hgrow (by simp; omega) (fun k hk => (ho.lt k hk).1)
          go_roundw
          case rel => exact ⟨_, i + 1, rfl, by go_num, by omega, hbl, by rw [HN.out]; exact R⟩
          case measure => simp only [intOf]; omega
    · have e : i = ps.length := by omega
      have HO := Lib.hid (show OwnShps wr w.heap.size v (distB ps) by rw [e, List.take_length] at hown; exact hown)
      clear e hown
      go_wp2
      go_ret
      exact ⟨_, rfl, HO.out, NX.out⟩

end Go.Proofs.Ytlandkindbmbfaa
