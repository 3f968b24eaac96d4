/-
  Texts of this seat, one behind the other: W15, W23, Plain9, K7. Conditions: those that each of them states.
-/
import Derived.Test.YtlandkindbmbfaaG6
import Derived.Test.YtlandkindbmbfaaG5
import Derived.Deep.RegionLaw
import Derived.Maps.AppendAt
/-
  The walks of alpha's Distinct and of what it calls (same, stands, slices.Equal, IndexFunc, ContainsFunc): the patterns' shapes, each once. Conditions: the numbers are ints, the lists within the form's own reach.
-/
namespace Go.Proofs.Ytlandkindbmbfaa
open Go.RowKit Plain

set_option maxRecDepth 100000 in
set_option maxHeartbeats 1600000 in
theorem equal_any (l m : List Int) (v u : Value) (w : World) (hv : IntsAt w w.heap.size v l) (hu : IntsAt w w.heap.size u m) (hl : l.length ≤ 35184372088832) (hm : m.length ≤ 35184372088832) :
    Calls Try.prog 70 #[v, u] w (BoolIs w (decide (l = m))) := by
  obtain ⟨V, hV⟩ : ∃ V, V = decide (l = m) := ⟨_, rfl⟩
  rw [← hV]
  have HV := Lib.hid hV
  clear hV
  obtain ⟨a, c, rfl, ha⟩ := hv
  obtain ⟨b, d, rfl, hb⟩ := hu
  by_cases hlm : l.length = m.length
  · rw [← hlm]
    rw [← hlm] at hb
    clear hm
    by_cases h0 : l = []
    · subst h0
      have hm0 : m = [] := List.length_eq_zero_iff.1 (by simpa using hlm.symm)
      subst hm0
      have HR := Lib.hid (show V = true by rw [HV.out]; rfl)
      clear ha hb hlm HV
      go_enter Try.func70, Try.ntmps70
      go_wp2
      refine wp_loop_rounds 1 ?_
      rw [rounds_succ]
      go_wp2
      go_ret
      exact ⟨ret_bool HR.out.symm, Below.refl _ _⟩
    · have h0' : m ≠ [] := fun e => h0 (List.length_eq_zero_iff.1 (by rw [hlm, e]; rfl))
      obtain ⟨g, off, rfl, hg, hc⟩ := ha.resolve_left h0
      obtain ⟨h, off2, rfl, hh, hd⟩ := hb.resolve_left h0'
      have HLM := Lib.hid hlm
      have hne : ((l.length : Int) != (l.length : Int)) = false := by simp
      clear ha hb h0 h0' hlm
      go_enter Try.func70, Try.ntmps70
      go_wp2
      clear hne
      go_loopw [13] (fun k wr => ∃ i : Nat, k = .int .i64 (i : Int) ∧ i ≤ l.length ∧ Below w.heap.size w wr ∧ Hid (EqTo l m i)) (fun k _ => l.length - (intOf k).toNat)
      case atStart => exact ⟨0, rfl, Nat.zero_le _, Below.refl _ _, EqTo.start l m⟩
      case round =>
        obtain ⟨i, rfl, hil, hnx, hE⟩ := hrel
        by_cases h1 : i < l.length
        · obtain ⟨x, hx⟩ : ∃ x, x = at' l i := ⟨_, rfl⟩
          obtain ⟨y, hy⟩ : ∃ y, y = at' m i := ⟨_, rfl⟩
          have hA : wr.cell? ⟨g, off + i, none⟩ = some (.int .i64 x) := by rw [hx]; exact (hnx.cell (p := ⟨g, off + i, none⟩) hg).trans (hc i h1)
          have hB : wr.cell? ⟨h, off2 + i, none⟩ = some (.int .i64 y) := by rw [hy]; exact (hnx.cell (p := ⟨h, off2 + i, none⟩) hh).trans (hd i h1)
          have h3 : (i : Int) < (l.length : Int) := by omega
          by_cases he : x = y
          · have HE := Lib.hid (hE.out.round hx hy he)
            have hb : (x != x) = false := by simp
            subst he
            clear hx hy hc hd hE
            go_wp2_with fail
            go_quiet (fail)
            generalize hW : wr.drewN _ = w2
            have hnx2 : Below w.heap.size w w2 := by rw [← hW]; exact below_drewN hnx
            clear hW hA hB hnx hb
            go_wp2
            go_roundw
            case rel => exact ⟨i + 1, by go_num, by omega, hnx2, HE.out⟩
            case measure => simp only [intOf]; omega
          · have HR := Lib.hid (show V = false by rw [HV.out]; exact decide_at hx hy he)
            have hb : (x != y) = true := by simpa using he
            clear hx hy hc hd hE he HV
            go_wp2_with fail
            go_quiet (fail)
            generalize hW : wr.drewN _ = w2
            have hnx2 : Below w.heap.size w w2 := by rw [← hW]; exact below_drewN hnx
            clear hW hA hB hnx
            go_wp2
            go_ret
            exact ⟨ret_bool HR.out.symm, hnx2⟩
        · have e : i = l.length := by omega
          have HR := Lib.hid (show V = true by rw [HV.out]; exact decide_eq_true (eq_of_at HLM.out (by rw [← e]; exact hE.out)))
          clear e
          go_wp2
          go_ret
          exact ⟨ret_bool HR.out.symm, hnx⟩
  · have HR := Lib.hid (show V = false by rw [HV.out]; exact decide_len hlm)
    have hne : ((l.length : Int) != (m.length : Int)) = true := by simp; omega
    clear ha hb hlm HV
    go_enter Try.func70, Try.ntmps70
    go_wp2
    go_ret
    exact ⟨ret_bool HR.out.symm, Below.refl _ _⟩


set_option maxRecDepth 100000 in
set_option maxHeartbeats 1600000 in
theorem asame_any (s t : Shp) (x y : Value) (w : World) (hx : ShpAt w w.heap.size x s) (hy : ShpAt w w.heap.size y t) (hs : Okay s) (ht : Okay t) :
    Calls Try.prog 67 #[x, y] w (BoolIs w (sameB s t)) := by
  obtain ⟨u, rfl, hu⟩ := hx
  obtain ⟨v, rfl, hv⟩ := hy
  obtain ⟨a, ca, rfl, _⟩ := id hu
  obtain ⟨b, cb, rfl, _⟩ := id hv
  have hls := hs.len
  have hlt := ht.len
  obtain ⟨W0, hW0⟩ : ∃ W0, W0 = (w.alloc (.cells #[.int .i64 s.pred, .slice a s.cells.length ca] 27)).alloc (.cells #[.int .i64 t.pred, .slice b t.cells.length cb] 27) := ⟨_, rfl⟩
  have hz0 : W0.heap.size = w.heap.size + 2 := by rw [hW0]; simp
  have HB0 := Lib.hid (show Below w.heap.size w W0 by rw [hW0]; exact ((Below.refl _ _).alloc (Nat.le_refl _) _).alloc (by simp) _)
  have HI := Lib.hid (equal_any s.cells t.cells _ _ W0 ((hu.below HB0.out).mono (by omega)) ((hv.below HB0.out).mono (by omega)) hls hlt)
  clear hu hv
  by_cases hp : s.pred = t.pred
  · have hpn : (s.pred == t.pred) = true := by simp [hp]
    have HR := Lib.hid (show decide (s.cells = t.cells) = sameB s t by unfold sameB; rw [decide_eq_true hp]; rfl)
    clear hp
    go_enter Try.func67, Try.ntmps67
    go_wp2_with fail
    rw [← hW0]
    clear hW0
    refine HI.out.mono ?_
    rintro e w1 ⟨rfl, hb1⟩
    rw [HR.out]
    go_wp2
    go_ret
    exact ⟨rfl, HB0.out.trans (hb1.mono (by omega))⟩
  · have hpn : (s.pred == t.pred) = false := by simpa using hp
    have HR := Lib.hid (sameB_pred hp)
    clear hp HI
    go_enter Try.func67, Try.ntmps67
    go_wp2
    go_ret
    refine ⟨ret_bool HR.out.symm, ?_⟩
    rw [← hW0]; exact HB0.out


set_option maxRecDepth 100000 in
set_option maxHeartbeats 1600000 in
theorem closure_any (s t : Shp) (x vs : Value) (X : Nat) (w : World) (hx : ShpAt w w.heap.size x t) (hb : ShBox w X s vs) (hs : Okay s) (ht : Okay t) :
    Calls Try.prog 66 #[x, .pointer (some ⟨X, 0, none⟩)] w (BoolIs w (sameB s t)) := by
  obtain ⟨u, rfl, hu⟩ := hx
  obtain ⟨a, ca, rfl, _⟩ := id hu
  obtain ⟨b, cb, rfl, _⟩ := id hb.2.2.1
  obtain ⟨W0, hW0⟩ : ∃ W0, W0 = w.alloc (.cells #[.int .i64 t.pred, .slice a t.cells.length ca] 27) := ⟨_, rfl⟩
  have hz0 : W0.heap.size = w.heap.size + 1 := by rw [hW0]; simp
  have HB0 := Lib.hid (show Below w.heap.size w W0 by rw [hW0]; exact up_alloc _ _)
  have HX := Lib.hid (hb.below HB0.out)
  have HU := Lib.hid ((hu.below HB0.out).mono (show w.heap.size ≤ W0.heap.size by omega))
  have k0 : (w.alloc (.cells #[.int .i64 t.pred, .slice a t.cells.length ca] 27)).cell? ⟨X, 0, none⟩ = some (.int .i64 s.pred) := by rw [← hW0]; exact HX.out.1
  have k1 : (w.alloc (.cells #[.int .i64 t.pred, .slice a t.cells.length ca] 27)).cell? ⟨X, 1, none⟩ = some (.slice b s.cells.length cb) := by rw [← hW0]; exact HX.out.2.1
  clear hu hb
  go_enter Try.func66, Try.ntmps66
  go_wp2_with fail
  rw [← hW0]
  clear hW0 k0 k1
  refine (asame_any s t _ _ W0 ⟨_, rfl, HX.out.2.2.1⟩ ⟨_, rfl, HU.out⟩ hs ht).mono ?_
  rintro e w1 ⟨rfl, hb1⟩
  go_wp2
  go_ret
  exact ⟨rfl, HB0.out.trans (hb1.mono (by omega))⟩

def IndexIs (ss : List Shp) (s : Shp) (w : World) (e : Ending) (w' : World) : Prop := ∃ k : Int, e = .returned (.int .i64 k) ∧ decide (0 ≤ k) = standsB ss s ∧ -1 ≤ k ∧ k ≤ ss.length ∧ Below w.heap.size w w'

set_option maxRecDepth 100000 in
set_option maxHeartbeats 1600000 in
theorem index_any (ss : List Shp) (v : Value) (s : Shp) (vs : Value) (X : Nat) (w : World) (hv : ShpsAt w w.heap.size v ss) (hss : Okays ss) (hn : ss.length ≤ 4398046510976) (hb : ShBox w X s vs) (hs : Okay s) :
    Calls Try.prog 69 #[v, .func (.func 66) #[] #[.pointer (some ⟨X, 0, none⟩)]] w (IndexIs ss s w) := by
  obtain ⟨a, ca, rfl, ha⟩ := hv.form
  have HV := Lib.hid hv
  have HA := Lib.hid ha
  have HX := Lib.hid hb
  clear hv ha hb
  go_enter Try.func69, Try.ntmps69
  go_wp2
  go_loopw [8] (fun k wr => ∃ i : Nat, k = .int .i64 (i : Int) ∧ i ≤ ss.length ∧ Below w.heap.size w wr ∧ Hid (NoTo ss s i)) (fun k _ => ss.length - (intOf k).toNat)
  case atStart => exact ⟨0, rfl, Nat.zero_le _, Below.refl _ _, NoTo.start _ _⟩
  case round =>
    obtain ⟨i, rfl, hil, hnx, hE⟩ := hrel
    have NX := Lib.hid hnx
    clear hnx
    by_cases h1 : i < ss.length
    · obtain ⟨g, off, rfl⟩ := HA.out (ne_of_lt_len h1)
      obtain ⟨t, hti⟩ : ∃ t, ss[i]? = some t := ⟨ss[i]'h1, List.getElem?_eq_getElem h1⟩
      obtain ⟨hg, x, c0, c1, hx, _⟩ := ShpsAt.get (HV.out.below NX.out) hti
      have hok := hss t (List.mem_of_getElem? hti)
      have HXI := Lib.hid (hx.mono NX.out.size)
      have HTI := Lib.hid hti
      obtain ⟨ax, cx, rfl, _⟩ := HXI.out
      clear hx hti
      go_wp2_with fail
      refine (closure_any s t _ vs X wr ⟨_, rfl, HXI.out⟩ (HX.out.below NX.out) hs hok.1).mono ?_
      rintro e w2 ⟨rfl, hb2⟩
      have NX2 := Lib.hid (NX.out.trans (hb2.mono NX.out.size))
      clear hb2 c0 c1
      cases hst : sameB s t with
      | true =>
        have HR := Lib.hid (stands_yes HTI.out hst)
        clear hst
        go_wp2
        go_ret
        exact ⟨(i : Int), rfl, by rw [HR.out]; simp, by omega, by omega, NX2.out⟩
      | false =>
        have HE := Lib.hid (hE.out.round HTI.out hst)
        clear hst hE
        go_wp2
        go_roundw
        case rel => exact ⟨i + 1, by go_num, by omega, NX2.out, HE.out⟩
        case measure => simp only [intOf]; omega
    · have e : i = ss.length := by omega
      have HR := Lib.hid (stands_no (by rw [← e]; exact hE.out))
      clear e hE
      go_wp2
      go_ret
      exact ⟨-1, rfl, by rw [HR.out]; rfl, by omega, by omega, NX.out⟩

set_option maxRecDepth 100000 in
set_option maxHeartbeats 1600000 in
theorem contains_any (ss : List Shp) (v : Value) (s : Shp) (vs : Value) (X : Nat) (w : World) (hv : ShpsAt w w.heap.size v ss) (hss : Okays ss) (hn : ss.length ≤ 4398046510976) (hb : ShBox w X s vs) (hs : Okay s) :
    Calls Try.prog 65 #[v, .func (.func 66) #[] #[.pointer (some ⟨X, 0, none⟩)]] w (BoolIs w (standsB ss s)) := by
  go_enter Try.func65, Try.ntmps65
  go_wp2_with fail
  refine (index_any ss v s vs X w hv hss hn hb hs).mono ?_
  rintro e w1 ⟨k, rfl, hk, h1, h2, hb1⟩
  have HK := Lib.hid hk
  clear hk
  by_cases h0 : 0 ≤ k
  · have HR := Lib.hid (show standsB ss s = true by rw [← HK.out]; exact decide_eq_true h0)
    go_wp2
    go_ret
    exact ⟨ret_bool (by rw [HR.out]), hb1⟩
  · have HR := Lib.hid (show standsB ss s = decide (0 ≤ k) from HK.out.symm)
    go_wp2
    go_ret
    exact ⟨ret_bool (by rw [HR.out]), hb1⟩

set_option maxRecDepth 100000 in
set_option maxHeartbeats 1600000 in
theorem stands_any (ss : List Shp) (v : Value) (s : Shp) (u : Value) (w : World) (hv : ShpsAt w w.heap.size v ss) (hss : Okays ss) (hn : ss.length ≤ 4398046510976) (hu : IntsAt w w.heap.size u s.cells) (hs : Okay s) :
    Calls Try.prog 55 #[v, .agg #[.int .i64 s.pred, u]] w (BoolIs w (standsB ss s)) := by
  have hmf : ∀ (fn : Fn) (first cap : Array Value) (w : World), (Instr.makeFunc fn first cap).run Try.prog w = .ok (.func fn first cap) w := fun _ _ _ _ => rfl
  obtain ⟨a, ca, rfl, _⟩ := id hu
  obtain ⟨W0, hW0⟩ : ∃ W0, W0 = w.alloc (.cells #[.int .i64 s.pred, .slice a s.cells.length ca] 27) := ⟨_, rfl⟩
  have HB0 := Lib.hid (show Below w.heap.size w W0 by rw [hW0]; exact up_alloc _ _)
  have HX := Lib.hid (show ShBox W0 w.heap.size s (.slice a s.cells.length ca) by rw [hW0]; exact ShBox.made hu)
  have HV := Lib.hid ((hv.below HB0.out).mono HB0.out.size)
  clear hu hv
  go_enter Try.func55, Try.ntmps55
  go_wp2_with fail
  rw [← hW0]
  clear hW0
  refine (contains_any ss v s _ w.heap.size W0 HV.out hss hn HX.out hs).mono ?_
  rintro e w1 ⟨rfl, hb1⟩
  go_wp2
  go_ret
  exact ⟨rfl, HB0.out.trans (hb1.mono HB0.out.size)⟩

/-! ### Lists of patterns -/
def PatsAt (w : World) (B : Nat) (v : Value) (ps : List Pt) : Prop :=
  ∃ (a : Option Addr) (cap : Nat), v = .slice a ps.length cap ∧ (ps = [] ∨ ∃ g off, a = some ⟨g, off, none⟩ ∧ g < B ∧
    ∀ (j : Nat) (x : Pt), ps[j]? = some x → ∃ u, w.cell? ⟨g, off + j * 2, none⟩ = some (.int .i64 x.1) ∧ w.cell? ⟨g, off + j * 2 + 1, none⟩ = some u ∧ SlotsAt w B u x.2)
def OkPat (x : Pt) : Prop := Bnd x.1 ∧ I64l x.2 ∧ x.2.length ≤ 8796093022000
def OkPats (ps : List Pt) : Prop := ∀ x, x ∈ ps → OkPat x
theorem PatsAt.below {w w' : World} {B : Nat} {v : Value} {ps : List Pt} (h : PatsAt w B v ps) (hb : Below B w w') : PatsAt w' B v ps := by
  obtain ⟨a, cap, rfl, h⟩ := h
  refine ⟨a, cap, rfl, ?_⟩
  rcases h with rfl | ⟨g, off, rfl, hg, hc⟩
  · exact .inl rfl
  · refine .inr ⟨g, off, rfl, hg, fun j s hj => ?_⟩
    obtain ⟨u, h1, h2, h3⟩ := hc j s hj
    exact ⟨u, below_cells hb hg h1, below_cells hb hg h2, h3.below hb⟩
theorem PatsAt.mono {w : World} {B B' : Nat} {v : Value} {ps : List Pt} (h : PatsAt w B v ps) (hb : B ≤ B') : PatsAt w B' v ps := by
  obtain ⟨a, cap, rfl, h⟩ := h
  refine ⟨a, cap, rfl, ?_⟩
  rcases h with rfl | ⟨g, off, rfl, hg, hc⟩
  · exact .inl rfl
  · refine .inr ⟨g, off, rfl, by omega, fun j s hj => ?_⟩
    obtain ⟨u, h1, h2, h3⟩ := hc j s hj
    exact ⟨u, h1, h2, h3.mono hb⟩
theorem PatsAt.get {w : World} {B g off c n : Nat} {ps : List Pt} (h : PatsAt w B (.slice (some ⟨g, off, none⟩) n c) ps) {i : Nat} {x : Pt} (hs : ps[i]? = some x) :
    g < B ∧ ∃ u, w.cell? ⟨g, off + i * 2, none⟩ = some (.int .i64 x.1) ∧ w.cell? ⟨g, off + i * 2 + 1, none⟩ = some u ∧ SlotsAt w B u x.2 := by
  obtain ⟨a, cap, e, h⟩ := h
  simp only [Value.slice.injEq] at e
  obtain ⟨rfl, rfl, rfl⟩ := e
  rcases h with rfl | ⟨g', off', h1, hg, hc⟩
  · simp at hs
  · simp only [Option.some.injEq, Addr.mk.injEq, and_true] at h1
    obtain ⟨rfl, rfl⟩ := h1
    exact ⟨hg, hc i x hs⟩
theorem PatsAt.form {w : World} {B : Nat} {v : Value} {ps : List Pt} (h : PatsAt w B v ps) : ∃ a c, v = .slice a ps.length c ∧ (ps ≠ [] → ∃ g off, a = some ⟨g, off, none⟩) := by
  obtain ⟨a, cap, rfl, h⟩ := h
  refine ⟨a, cap, rfl, fun hn => ?_⟩
  obtain ⟨g, off, h1, _⟩ := h.resolve_left hn
  exact ⟨g, off, h1⟩
theorem shp_okay {x : Pt} (h : OkPat x) : Okay (shp x) ∧ (shp x).cells.length ≤ 17592186044400 := by
  obtain ⟨p, l⟩ := x
  obtain ⟨h1, h2, h3⟩ := h
  by_cases hc : 0 ≤ p ∧ l.all okSlt = true
  · exact shape_okay_big ⟨hc.1, h1.2⟩ hc.2 h2 h3
  · have : shp (p, l) = ⟨-1, []⟩ := by
      unfold shp shapeB
      rw [if_neg]
      simp only [Bool.and_eq_true, decide_eq_true_eq]
      exact hc
    rw [this]
    exact ⟨⟨by simp, by simp, fun j => by simp [at'], by simp⟩, by simp⟩
theorem dist_okays {ps : List Pt} (h : OkPats ps) (i : Nat) : Okays (distB (ps.take i)) := by
  intro s hs
  obtain ⟨x, hx, rfl⟩ := distB_mem hs
  exact shp_okay (h x (List.mem_of_mem_take hx))
theorem OwnShps.up {w w' : World} {B : Nat} {v : Value} {ss : List Shp} (h : OwnShps w B v ss) (hb : Below w.heap.size w w') : OwnShps w' B v ss :=
  h.kept (.inl rfl) ⟨hb.os, hb.tape, hb.output, hb.size, fun k hk _ => hb.block k hk⟩

def DistIs (ps : List Pt) (w : World) (e : Ending) (w' : World) : Prop := ∃ v, e = .returned v ∧ OwnShps w' w.heap.size v (distB ps) ∧ Below w.heap.size w w'
def DistRel (ps : List Pt) (w : World) (v k : Value) (wr : World) : Prop :=
  ∃ (o : Value) (i : Nat), o = v ∧ k = .int .i64 (i : Int) ∧ i ≤ ps.length ∧ Below w.heap.size w wr ∧ OwnShps wr w.heap.size o (distB (ps.take i))

theorem Try.info27' : (Try.prog.info? 27).map (fun i => (i.zero, i.size, i.bytes)) = some (some (.agg #[.int .i64 0, .slice none 0 0]), 2, 32) := by kernel_rfl

set_option maxRecDepth 100000 in
set_option maxHeartbeats 3200000 in
theorem distinct_any (ps : List Pt) (v : Value) (w : World) (hv : PatsAt w w.heap.size v ps) (hps : OkPats ps) (hn : ps.length ≤ 4398046510976) :
    Calls Try.prog 29 #[v] w (DistIs ps w) := by
  obtain ⟨i27, pi, p0, p1, p2⟩ := info_parts Try.info27'
  obtain ⟨a, cap, rfl, ha⟩ := hv.form
  have HV := Lib.hid hv
  have HA := Lib.hid ha
  clear hv ha
  go_enter Try.func29, Try.ntmps29
  go_wp2
  go_loopw [3, 9] (fun v k wr => DistRel ps w v k wr) (fun _ k _ => ps.length - (intOf k).toNat)
  case atStart => exact ⟨_, 0, rfl, rfl, Nat.zero_le _, Below.refl _ _, OwnShps.nil _ _⟩
  case round =>
    obtain ⟨v, i, rfl, rfl, hil, hnx, hown⟩ := hrel
    have NX := Lib.hid hnx
    have hsz := hnx.size
    clear hnx
    by_cases h1 : i < ps.length
    · obtain ⟨g, off, rfl⟩ := HA.out (ne_of_lt_len h1)
      obtain ⟨x, hxi⟩ : ∃ x, ps[i]? = some x := ⟨ps[i]'h1, List.getElem?_eq_getElem h1⟩
      obtain ⟨hg, u, c0, c1, hu⟩ := PatsAt.get (HV.out.below NX.out) hxi
      have hok := hps x (List.mem_of_getElem? hxi)
      have hsok := shp_okay hok
      have HD := Lib.hid (distB_next hxi)
      have hdo := dist_okays hps i
      obtain ⟨acc, hacc⟩ : ∃ acc, acc = distB (ps.take i) := ⟨_, rfl⟩
      rw [← hacc] at hown hdo HD
      have hal : acc.length ≤ i := by rw [hacc]; refine Nat.le_trans (distB_len _) ?_; rw [List.length_take]; omega
      obtain ⟨au, cu, rfl, _⟩ := hu.form
      have HU := Lib.hid (hu.mono hsz)
      have HO := Lib.hid hown
      clear hacc hown hu hxi
      go_wp2_with fail
      generalize hx : wr.alloc (.cells #[.int .i64 x.1, .slice au x.2.length cu] 39) = wa
      have hb : Below wr.heap.size wr wa := by rw [← hx]; exact up_alloc _ _
      have PBx := Lib.hid (show PatBox wa wr.heap.size x.1 x.2 (.slice au x.2.length cu) by rw [← hx]; exact PatBox.made HU.out)
      have NA := Lib.hid (NX.out.trans (hb.mono hsz))
      have OA := Lib.hid (HO.out.up hb)
      clear hx hb c0 c1 NX HO
      refine (shape_big x.1 x.2 _ wa PBx.out.2.2.1 hok.2.1 hok.2.2).mono ?_
      rintro e w2 ⟨vs, rfl, hos, hb2⟩
      obtain ⟨aS, ns, cs, rfl⟩ := hos.form
      have IS := Lib.hid hos.at
      have HOS := Lib.hid (hos.mono NA.out.size)
      have N2 := Lib.hid (NA.out.trans (hb2.mono NA.out.size))
      have O2 := Lib.hid (OA.out.up hb2)
      clear hos hb2 NA OA PBx
      have hshp : shapeB x.1 x.2 = shp x := rfl
      rw [hshp] at IS HOS ⊢
      obtain ⟨s, hs⟩ : ∃ s, s = shp x := ⟨_, rfl⟩
      rw [← hs] at IS HOS hsok ⊢
      have HSX := Lib.hid hs
      have h2z := N2.out.size
      clear hs hshp
      by_cases hp : s.pred < 0
      · have HN := Lib.hid (show distB (ps.take (i + 1)) = acc by rw [HD.out]; exact stepD_neg (by rw [← HSX.out]; exact hp))
        go_wp2_with fail
        generalize hx : w2.alloc (.cells #[.int .i64 s.pred, .slice aS ns cs] 27) = w3
        have hb : Below w2.heap.size w2 w3 := by rw [← hx]; exact up_alloc _ _
        have N3 := Lib.hid (N2.out.trans (hb.mono h2z))
        have O3 := Lib.hid (O2.out.up hb)
        clear hx hb
        go_roundw
        case rel => exact ⟨_, i + 1, rfl, by go_num, by omega, N3.out, by rw [HN.out]; exact O3.out⟩
        case measure => simp only [intOf]; omega
      · go_wp2_with fail
        generalize hx : w2.alloc (.cells #[.int .i64 s.pred, .slice aS ns cs] 27) = w3
        have hb : Below w2.heap.size w2 w3 := by rw [← hx]; exact up_alloc _ _
        have SBx := Lib.hid (show ShBox w3 w2.heap.size s (.slice aS ns cs) by rw [← hx]; exact ShBox.made IS.out)
        have N3 := Lib.hid (N2.out.trans (hb.mono h2z))
        have O3 := Lib.hid (O2.out.up hb)
        have HOS3 := Lib.hid (HOS.out.kept (World.grownBy_alloc w2 (.cells #[.int .i64 s.pred, .slice aS ns cs] 27) none) (lt_of_own HOS.out (.inl rfl)))
        rw [hx] at HOS3
        clear hx hb O2 HOS IS
        refine (stands_any acc v s _ w3 O3.out.at hdo (by omega) SBx.out.2.2.1 hsok.1).mono ?_
        rintro e w4 ⟨rfl, hb4⟩
        have h3z := N3.out.size
        have N4 := Lib.hid (N3.out.trans (hb4.mono h3z))
        have O4 := Lib.hid (O3.out.up hb4)
        have SB4 := Lib.hid (SBx.out.below hb4)
        have HOS4 := Lib.hid (show OwnInts w4 w.heap.size (.slice aS ns cs) s.cells from World.ownsRow.kept HOS3.out ⟨hb4.os, hb4.tape, hb4.output, hb4.size, fun k hk _ => hb4.block k hk⟩ (lt_of_own HOS3.out (.inl rfl)))
        clear hb4 O3 SBx HOS3
        cases hst : standsB acc s with
        | true =>
          have HN := Lib.hid (show distB (ps.take (i + 1)) = acc by rw [HD.out]; exact stepD_old (by rw [← HSX.out]; exact hst))
          clear hst
          go_wp2
          go_roundw
          case rel => exact ⟨_, i + 1, rfl, by go_num, by omega, N4.out, by rw [HN.out]; exact O4.out⟩
          case measure => simp only [intOf]; omega
        | false =>
          have HN := Lib.hid (show distB (ps.take (i + 1)) = acc ++ [s] by rw [HD.out, HSX.out]; exact stepD_yes (by rw [← HSX.out]; omega) (by rw [← HSX.out]; exact hst))
          obtain ⟨vl, hvl, ho, hoi⟩ := O4.out
          have HOI := Lib.hid hoi
          have k0 := SB4.out.1
          have k1 := SB4.out.2.1
          have h4z := N4.out.size
          have hone := one_shape s.pred HOS4.out
          clear hst hoi O4
          go_wp2_with (at_builtin; refine wpList_append_own _ rfl _ _ 22 rfl w.heap.size 27 i27 (.agg #[.int .i64 0, .slice none 0 0]) 2 32 Try.underlying22 pi p0 p1 p2 rfl (by decide) v acc.length (flat acc vl) rfl (ho.alloc _) ⟨w4.heap.size, 0, none⟩ 1 1 [.int .i64 s.pred, .slice aS ns cs] rfl rfl (World.news_of_block (cs := #[.int .i64 s.pred, .slice aS ns cs]) (t := 27) (fr := (0, 0)) (heap_alloc_new w4 _)) hone (by unfold maxLen; omega) (by omega) (by simp; omega) ?_; intro v' w5 hown' hgrow hnl)
          have R := OwnShps.snoc hvl (ho.alloc (.cells #[.int .i64 s.pred, .slice aS ns cs] 27)) (fun j t x e1 e2 => World.ownsRow.alloc (HOI.out j t x e1 e2) _) (World.ownsRow.alloc HOS4.out _) hown' hgrow
          have hbl : Below w.heap.size w w5 := (N4.out.alloc h4z _).grown hgrow (by simp; omega) (fun k hk => (ho.lt k hk).1)
          go_roundw
          case rel => exact ⟨_, i + 1, rfl, by go_num, by omega, hbl, by rw [HN.out]; exact R⟩
          case measure => simp only [intOf]; omega
    · have e : i = ps.length := by omega
      have HO := Lib.hid (show OwnShps wr w.heap.size v (distB ps) by rw [e, List.take_length] at hown; exact hown)
      clear e hown
      go_wp2
      go_ret
      exact ⟨_, rfl, HO.out, NX.out⟩

end Go.Proofs.Ytlandkindbmbfaa
/-
  The walks of edictlaw10.member and usual: whether a number stands in a list; a row with numbers below 0 turned. Conditions: the lists are within the form's own reach.
-/
namespace Go.Proofs.Ytlandkindbmbfaa
open Go.RowKit Plain
attribute [local go_sem ↓] Go.wp_at_zero Go.wp_at_succ

def NotTo (l : List Int) (n : Int) (k : Nat) : Prop := ∀ j, j < k → at' l j ≠ n
theorem NotTo.start (l : List Int) (n : Int) : NotTo l n 0 := fun j h => by omega
theorem NotTo.round {l : List Int} {n : Int} {k : Nat} (h : NotTo l n k) (e : at' l k ≠ n) : NotTo l n (k + 1) := fun j hj => by
  by_cases e2 : j = k
  · subst e2; exact e
  · exact h j (by omega)
theorem mem_no {l : List Int} {n : Int} (h : NotTo l n l.length) : decide (n ∈ l) = false := decide_eq_false fun hm => by
  obtain ⟨j, hj, e⟩ := List.getElem_of_mem hm
  refine h j hj ?_
  unfold at'
  rw [List.getElem?_eq_getElem hj]
  exact e
theorem mem_yes {l : List Int} {n : Int} {k : Nat} (hk : k < l.length) (e : at' l k = n) : decide (n ∈ l) = true := decide_eq_true (by rw [← e]; exact at_mem hk)

set_option maxRecDepth 100000 in
set_option maxHeartbeats 1600000 in
theorem member_any (l : List Int) (n : Int) (v : Value) (w : World) (hv : IntsAt w w.heap.size v l) (hl : l.length ≤ 35184372088832) :
    Calls Try.prog 47 #[v, .int .i64 n] w fun e w' => e = .returned (.bool (decide (n ∈ l))) ∧ w = w' := by
  obtain ⟨V, hV⟩ : ∃ V, V = decide (n ∈ l) := ⟨_, rfl⟩
  rw [← hV]
  have HV := Lib.hid hV
  clear hV
  obtain ⟨a, ca, rfl, ha⟩ := hv
  have HA := Lib.hid ha
  clear ha
  go_enter Try.func47, Try.ntmps47
  go_wp2
  go_loop [5] (fun k => ∃ i : Nat, k = .int .i64 (i : Int) ∧ i ≤ l.length ∧ Hid (NotTo l n i)) (fun k => l.length - (intOf k).toNat)
  case atStart => exact ⟨0, rfl, Nat.zero_le _, NotTo.start _ _⟩
  case round =>
    obtain ⟨i, rfl, hil, hE⟩ := hrel
    by_cases h1 : i < l.length
    · obtain ⟨g, off, rfl, hg, hc⟩ := HA.out.resolve_left (fun e => by rw [e] at h1; simp at h1)
      obtain ⟨x, hx⟩ : ∃ x, x = at' l i := ⟨_, rfl⟩
      have c0 : w.cell? ⟨g, off + i, none⟩ = some (.int .i64 x) := by rw [hx]; exact hc i h1
      have HX := Lib.hid hx
      clear hc hx hg
      by_cases h2 : x = n
      · subst h2
        have HR := Lib.hid (show V = true by rw [HV.out]; exact mem_yes h1 HX.out.symm)
        clear hE
        go_wp2
        go_ret
        exact ⟨ret_bool HR.out.symm, rfl⟩
      · have HE := Lib.hid (hE.out.round (by rw [← HX.out]; exact h2))
        have hd : (x == n) = false := by simpa using h2
        clear hE
        go_wp2
        go_round
        case rel => exact ⟨i + 1, by go_num, by omega, HE.out⟩
        case measure => simp only [intOf]; omega
    · have e : i = l.length := by omega
      have HR := Lib.hid (show V = false by rw [HV.out]; exact mem_no (by rw [← e]; exact hE.out))
      clear e hE
      go_wp2
      go_ret
      exact ⟨ret_bool HR.out.symm, rfl⟩

/-- A row that Add takes, made of any. -/
def us (r : Shp) : Shp := ⟨prP r.pred, r.cells.map prP⟩
theorem us_next {l : List Int} {i : Nat} {x y : Int} (hi : i < l.length) (hx : x = at' l i) (he : prP x = y) : (l.take (i + 1)).map prP = (l.take i).map prP ++ [y] := by
  have e : l[i]? = some x := by rw [hx]; unfold at'; rw [List.getElem?_eq_getElem hi]; rfl
  rw [take_one e, List.map_append, ← he]; rfl
theorem prP_neg {x : Int} (h : x < 0) : prP x = 0 := if_pos h
theorem prP_pos {x : Int} (h : ¬ x < 0) : prP x = x := if_neg h

set_option maxRecDepth 100000 in
set_option maxHeartbeats 6400000 in
theorem usual_neg (p : Int) (l : List Int) (hp : p < 0) (v : Value) (w : World) (hv : IntsAt w w.heap.size v l) (hn : l.length ≤ 17592186044400) :
    Calls Try.prog 45 #[.agg #[.int .i64 p, v]] w (ShapeIs ⟨0, l.map prP⟩ w) := by
  obtain ⟨i3, qi, q0, q1, q2⟩ := info_parts Try.info3
  obtain ⟨a, cap, rfl, ha⟩ := id hv
  have HV := Lib.hid hv
  have HA := Lib.hid ha
  clear hv ha
  go_enter Try.func45, Try.ntmps45
  have HS0 := Lib.hid (RSB.start w (.int .i64 p) (.slice a l.length cap) 0)
  go_wp2
  generalize (((w.alloc (.cells #[.int .i64 p, .slice a l.length cap] 33)).alloc (.cells #[.int .i64 0, .slice none 0 0] 33)).alloc (.cells #[.int .i64 0, .slice none 0 0] 33)) = W0 at HS0 ⊢
  go_loopw [4] (fun k wr => ∃ (v : Value) (i : Nat), k = .int .i64 (i : Int) ∧ i ≤ l.length ∧ RSB w (.int .i64 p) (.slice a l.length cap) 0 ((l.take i).map prP) v wr) (fun k _ => l.length - (intOf k).toNat)
  case atStart => exact ⟨_, 0, rfl, Nat.zero_le _, HS0.out⟩
  case round =>
    obtain ⟨v, i, rfl, hil, hS⟩ := hrel
    have hsz := hS.1.size
    have HS := Lib.hid hS
    have ka := hS.carg
    have kv := hS.cvar
    clear hS
    by_cases h1 : i < l.length
    · obtain ⟨g, off, rfl, hg, hc⟩ := HA.out.resolve_left (fun e => by rw [e] at h1; simp at h1)
      obtain ⟨x, hx⟩ : ∃ x, x = at' l i := ⟨_, rfl⟩
      have i1 : (i : Int) < (l.length : Int) := by omega
      have c0 : wr.cell? ⟨g, off + i, none⟩ = some (.int .i64 x) := by rw [hx]; exact below_cells HS.out.1.below hg (hc i h1)
      have hol : ((l.take i).map prP).length = i := by rw [List.length_map, List.length_take]; omega
      obtain ⟨out, hout⟩ : ∃ out, out = (l.take i).map prP := ⟨_, rfl⟩
      rw [← hout] at HS hol
      have HO := Lib.hid hout
      have HX := Lib.hid hx
      have holb : out.length ≤ 17592186044400 := by omega
      clear hout hol hx hc hg
      have HE := Lib.hid (show prP x = (if x < 0 then 0 else x) from rfl)
      have k2 := (HS.out.alloc (.cells #[.int .i64 (if x < 0 then 0 else x)] 3)).cvar
      have ka2 := (HS.out.alloc (.cells #[.int .i64 (if x < 0 then 0 else x)] 3)).carg
      go_wp2_with fail
      go_region_law
        (first
          | (refine step_append_own _ (by rfl) _ _ 25 (by rfl) (w.heap.size + 3) 3 i3 (.int .i64 0) 1 8 Try.underlying25 qi q0 q1 q2 rfl (by decide) v out.length (lits out) (by rfl) (by exact (HS.out.alloc (.cells #[.int .i64 (if x < 0 then 0 else x)] 3)).1.own) ⟨wr.heap.size, 0, none⟩ 1 1 [.int .i64 (if x < 0 then 0 else x)] (by rfl) (by rfl) (World.news_of_block (cs := #[.int .i64 (if x < 0 then 0 else x)]) (t := 3) (fr := (0, 0)) (heap_alloc_new wr _)) (one_i64 _) (by unfold maxLen; omega) (by omega) (by simp; omega) ?_; intro v' w1 hown' hgrow' hnl; obtain ⟨g', c', rfl⟩ := Joins.ownsRow_form hown' (by omega); have hgrow : (wr.alloc (.cells #[.int .i64 (if x < 0 then 0 else x)] 3)).grownBy w1 v.ownBlock := ⟨hgrow'.os, hgrow'.tape, hgrow'.output, hgrow'.size, hgrow'.block⟩; have hw3 := (HS.out.alloc (.cells #[.int .i64 (if x < 0 then 0 else x)] 3)).grown hgrow; have k1 := rvar_of hw3; have hf := rfre_of hw3))
      all_goals
        have HP := Lib.hid ((HS.out.alloc (.cells #[.int .i64 (if x < 0 then 0 else x)] 3)).push hown' hgrow)
        go_wp2
        go_roundw
        case rel => exact ⟨_, i + 1, by go_num, by omega, by rw [us_next h1 HX.out HE.out, ← HO.out]; exact HP.out⟩
        case measure => simp only [intOf]; omega
    · have e : i = l.length := by omega
      have HO := Lib.hid (show RSB w (.int .i64 p) (.slice a l.length cap) 0 (l.map prP) v wr by have := HS.out; rw [e, List.take_length] at this; exact this)
      have v0 : wr.cell? ⟨w.heap.size + 2, 0, none⟩ = some (.int .i64 0) := by have := HO.out.1.var; simp only [World.cell?, this]; rfl
      have v1 := HO.out.cvar
      have t0 : wr.cell? ⟨w.heap.size + 1, 0, none⟩ = some (.int .i64 0) := by have := HO.out.1.res; simp only [World.cell?, this]; rfl
      have t1 : wr.cell? ⟨w.heap.size + 1, 1, none⟩ = some (.slice none 0 0) := by have := HO.out.1.res; simp only [World.cell?, this]; rfl
      have f0 : wr.frozen? ⟨w.heap.size + 1, 0, none⟩ = false := by have := HO.out.1.res; simp only [World.frozen?, this]; rfl
      have f1 : wr.frozen? ⟨w.heap.size + 1, 1, none⟩ = false := by have := HO.out.1.res; simp only [World.frozen?, this]; rfl
      obtain ⟨av, nv, cv, rfl⟩ := OwnInts.form (l := l.map prP) HO.out.1.own
      clear e HS
      go_wp2
      obtain ⟨s1, s2, s3⟩ := HO.out.stop
      exact bodyPost_ret2 (results_cell_row rfl _ _ (w.heap.size + 1) 33 #[.int .i64 0, .slice av nv cv] (0, 0) _ rfl s1 Try.underlying33 rfl Try.size33) ⟨_, rfl, s2, s3⟩

set_option maxRecDepth 100000 in
set_option maxHeartbeats 6400000 in
theorem usual_pos (p : Int) (l : List Int) (hp : 0 ≤ p) (v : Value) (w : World) (hv : IntsAt w w.heap.size v l) (hn : l.length ≤ 17592186044400) :
    Calls Try.prog 45 #[.agg #[.int .i64 p, v]] w (ShapeIs ⟨p, l.map prP⟩ w) := by
  obtain ⟨i3, qi, q0, q1, q2⟩ := info_parts Try.info3
  obtain ⟨a, cap, rfl, ha⟩ := id hv
  have HV := Lib.hid hv
  have HA := Lib.hid ha
  clear hv ha
  go_enter Try.func45, Try.ntmps45
  have HS0 := Lib.hid (RSB.start w (.int .i64 p) (.slice a l.length cap) p)
  go_wp2
  generalize (((w.alloc (.cells #[.int .i64 p, .slice a l.length cap] 33)).alloc (.cells #[.int .i64 0, .slice none 0 0] 33)).alloc (.cells #[.int .i64 p, .slice none 0 0] 33)) = W0 at HS0 ⊢
  go_loopw [4] (fun k wr => ∃ (v : Value) (i : Nat), k = .int .i64 (i : Int) ∧ i ≤ l.length ∧ RSB w (.int .i64 p) (.slice a l.length cap) p ((l.take i).map prP) v wr) (fun k _ => l.length - (intOf k).toNat)
  case atStart => exact ⟨_, 0, rfl, Nat.zero_le _, HS0.out⟩
  case round =>
    obtain ⟨v, i, rfl, hil, hS⟩ := hrel
    have hsz := hS.1.size
    have HS := Lib.hid hS
    have ka := hS.carg
    have kv := hS.cvar
    clear hS
    by_cases h1 : i < l.length
    · obtain ⟨g, off, rfl, hg, hc⟩ := HA.out.resolve_left (fun e => by rw [e] at h1; simp at h1)
      obtain ⟨x, hx⟩ : ∃ x, x = at' l i := ⟨_, rfl⟩
      have i1 : (i : Int) < (l.length : Int) := by omega
      have c0 : wr.cell? ⟨g, off + i, none⟩ = some (.int .i64 x) := by rw [hx]; exact below_cells HS.out.1.below hg (hc i h1)
      have hol : ((l.take i).map prP).length = i := by rw [List.length_map, List.length_take]; omega
      obtain ⟨out, hout⟩ : ∃ out, out = (l.take i).map prP := ⟨_, rfl⟩
      rw [← hout] at HS hol
      have HO := Lib.hid hout
      have HX := Lib.hid hx
      have holb : out.length ≤ 17592186044400 := by omega
      clear hout hol hx hc hg
      have HE := Lib.hid (show prP x = (if x < 0 then 0 else x) from rfl)
      have k2 := (HS.out.alloc (.cells #[.int .i64 (if x < 0 then 0 else x)] 3)).cvar
      have ka2 := (HS.out.alloc (.cells #[.int .i64 (if x < 0 then 0 else x)] 3)).carg
      go_wp2_with fail
      go_region_law
        (first
          | (refine step_append_own _ (by rfl) _ _ 25 (by rfl) (w.heap.size + 3) 3 i3 (.int .i64 0) 1 8 Try.underlying25 qi q0 q1 q2 rfl (by decide) v out.length (lits out) (by rfl) (by exact (HS.out.alloc (.cells #[.int .i64 (if x < 0 then 0 else x)] 3)).1.own) ⟨wr.heap.size, 0, none⟩ 1 1 [.int .i64 (if x < 0 then 0 else x)] (by rfl) (by rfl) (World.news_of_block (cs := #[.int .i64 (if x < 0 then 0 else x)]) (t := 3) (fr := (0, 0)) (heap_alloc_new wr _)) (one_i64 _) (by unfold maxLen; omega) (by omega) (by simp; omega) ?_; intro v' w1 hown' hgrow' hnl; obtain ⟨g', c', rfl⟩ := Joins.ownsRow_form hown' (by omega); have hgrow : (wr.alloc (.cells #[.int .i64 (if x < 0 then 0 else x)] 3)).grownBy w1 v.ownBlock := ⟨hgrow'.os, hgrow'.tape, hgrow'.output, hgrow'.size, hgrow'.block⟩; have hw3 := (HS.out.alloc (.cells #[.int .i64 (if x < 0 then 0 else x)] 3)).grown hgrow; have k1 := rvar_of hw3; have hf := rfre_of hw3))
      all_goals
        have HP := Lib.hid ((HS.out.alloc (.cells #[.int .i64 (if x < 0 then 0 else x)] 3)).push hown' hgrow)
        go_wp2
        go_roundw
        case rel => exact ⟨_, i + 1, by go_num, by omega, by rw [us_next h1 HX.out HE.out, ← HO.out]; exact HP.out⟩
        case measure => simp only [intOf]; omega
    · have e : i = l.length := by omega
      have HO := Lib.hid (show RSB w (.int .i64 p) (.slice a l.length cap) p (l.map prP) v wr by have := HS.out; rw [e, List.take_length] at this; exact this)
      have v0 : wr.cell? ⟨w.heap.size + 2, 0, none⟩ = some (.int .i64 p) := by have := HO.out.1.var; simp only [World.cell?, this]; rfl
      have v1 := HO.out.cvar
      have t0 : wr.cell? ⟨w.heap.size + 1, 0, none⟩ = some (.int .i64 0) := by have := HO.out.1.res; simp only [World.cell?, this]; rfl
      have t1 : wr.cell? ⟨w.heap.size + 1, 1, none⟩ = some (.slice none 0 0) := by have := HO.out.1.res; simp only [World.cell?, this]; rfl
      have f0 : wr.frozen? ⟨w.heap.size + 1, 0, none⟩ = false := by have := HO.out.1.res; simp only [World.frozen?, this]; rfl
      have f1 : wr.frozen? ⟨w.heap.size + 1, 1, none⟩ = false := by have := HO.out.1.res; simp only [World.frozen?, this]; rfl
      obtain ⟨av, nv, cv, rfl⟩ := OwnInts.form (l := l.map prP) HO.out.1.own
      clear e HS
      go_wp2
      obtain ⟨s1, s2, s3⟩ := HO.out.stop
      exact bodyPost_ret2 (results_cell_row rfl _ _ (w.heap.size + 1) 33 #[.int .i64 p, .slice av nv cv] (0, 0) _ rfl s1 Try.underlying33 rfl Try.size33) ⟨_, rfl, s2, s3⟩

theorem usual_any (r : Shp) (v : Value) (w : World) (hv : IntsAt w w.heap.size v r.cells) (hn : r.cells.length ≤ 17592186044400) :
    Calls Try.prog 45 #[.agg #[.int .i64 r.pred, v]] w (ShapeIs (us r) w) := by
  unfold us
  by_cases hp : r.pred < 0
  · rw [prP_neg hp]; exact usual_neg r.pred r.cells hp v w hv hn
  · rw [prP_pos hp]; exact usual_pos r.pred r.cells (by omega) v w hv hn

end Go.Proofs.Ytlandkindbmbfaa
/-
  Plain laws of memories: the numbers of a list's members that have a property, rising; what comes with one more; what goes when the list is cut. No program is in sight here.
-/
namespace Go.Proofs.Ytlandkindbmbfaa.Plain

/-- The places (counted from k) of the members that have the property, rising. -/
def idxFrom {α : Type} (f : α → Bool) : Nat → List α → List Int
  | _, [] => []
  | k, a :: l => if f a = true then (k : Int) :: idxFrom f (k + 1) l else idxFrom f (k + 1) l
def idx {α : Type} (f : α → Bool) (l : List α) : List Int := idxFrom f 0 l

section
variable {α : Type} {f : α → Bool}
theorem idxFrom_cons (a : α) (l : List α) (k : Nat) : idxFrom f k (a :: l) = if f a = true then (k : Int) :: idxFrom f (k + 1) l else idxFrom f (k + 1) l := rfl
theorem idxFrom_append : ∀ (l m : List α) (k : Nat), idxFrom f k (l ++ m) = idxFrom f k l ++ idxFrom f (k + l.length) m
  | [], m, k => by simp [idxFrom]
  | a :: l, m, k => by
    have e := idxFrom_append l m (k + 1)
    have e2 : k + (a :: l).length = k + 1 + l.length := by simp; omega
    rw [e2, List.cons_append, idxFrom_cons, idxFrom_cons, e]
    split
    · rfl
    · rfl
theorem idx_snoc (l : List α) (a : α) : idx f (l ++ [a]) = idx f l ++ (if f a = true then [(l.length : Int)] else []) := by
  unfold idx
  rw [idxFrom_append, Nat.zero_add]
  congr 1
theorem idx_next {l : List α} {i : Nat} {a : α} (h : l[i]? = some a) : idx f (l.take (i + 1)) = idx f (l.take i) ++ (if f a = true then [(i : Int)] else []) := by
  have hi : i < l.length := (List.getElem?_eq_some_iff.1 h).1
  rw [List.take_add_one, h]
  have := idx_snoc (f := f) (l.take i) a
  rw [List.length_take, Nat.min_eq_left (by omega)] at this
  exact this
theorem idx_yes {l : List α} {i : Nat} {a : α} (h : l[i]? = some a) (hf : f a = true) : idx f (l.take (i + 1)) = idx f (l.take i) ++ [(i : Int)] := by rw [idx_next h, if_pos hf]
theorem idx_no {l : List α} {i : Nat} {a : α} (h : l[i]? = some a) (hf : f a = false) : idx f (l.take (i + 1)) = idx f (l.take i) := by rw [idx_next h, if_neg (by simp [hf]), List.append_nil]
theorem idxFrom_bounds : ∀ (l : List α) (k : Nat), ∀ x ∈ idxFrom f k l, (k : Int) ≤ x ∧ x < (k : Int) + (l.length : Int)
  | [], k => by simp [idxFrom]
  | a :: l, k => by
    intro x hx
    have e := idxFrom_bounds l (k + 1)
    unfold idxFrom at hx
    have e2 : ((a :: l).length : Int) = (l.length : Int) + 1 := by simp
    rw [e2]
    split at hx
    · rcases List.mem_cons.1 hx with rfl | hx
      · omega
      · have := e x hx; omega
    · have := e x hx; omega
theorem idx_bounds (l : List α) : ∀ x ∈ idx f l, 0 ≤ x ∧ x < (l.length : Int) := by
  intro x hx
  have := idxFrom_bounds (f := f) l 0 x hx
  omega
theorem idxFrom_length : ∀ (l : List α) (k : Nat), (idxFrom f k l).length ≤ l.length
  | [], _ => by simp [idxFrom]
  | a :: l, k => by
    have e := idxFrom_length l (k + 1)
    unfold idxFrom
    split <;> simp <;> omega
theorem idx_length (l : List α) : (idx f l).length ≤ l.length := idxFrom_length l 0
/-- Cut at m: what stands before is less, what stands behind is not. -/
theorem idx_cut (l : List α) {m : Nat} (hm : m ≤ l.length) : idx f l = idx f (l.take m) ++ idxFrom f m (l.drop m) := by
  have e := idxFrom_append (f := f) (l.take m) (l.drop m) 0
  rw [List.take_append_drop, List.length_take, Nat.min_eq_left hm, Nat.zero_add] at e
  exact e
theorem idxFrom_mem : ∀ (l : List α) (k j : Nat), ((k + j : Nat) : Int) ∈ idxFrom f k l ↔ ∃ a, l[j]? = some a ∧ f a = true
  | [], k, j => by simp [idxFrom]
  | a :: l, k, j => by
    have hb := idxFrom_bounds (f := f) l (k + 1)
    match j with
    | 0 =>
      unfold idxFrom
      split
      · rename_i h; simp [h]
      · rename_i h
        simp only [Nat.add_zero, List.getElem?_cons_zero, Option.some.injEq, exists_eq_left']
        constructor
        · intro hx; have := hb _ hx; omega
        · intro hx; exact absurd hx h
    | j + 1 =>
      have e := idxFrom_mem l (k + 1) j
      rw [show k + 1 + j = k + (j + 1) by omega] at e
      rw [List.getElem?_cons_succ, ← e]
      rw [idxFrom]
      split
      · rw [List.mem_cons]
        constructor
        · rintro (hx | hx)
          · omega
          · exact hx
        · exact .inr
      · exact Iff.rfl
theorem idx_mem {l : List α} {j : Nat} {a : α} (h : l[j]? = some a) : decide ((j : Int) ∈ idx f l) = f a := by
  have e := idxFrom_mem (f := f) l 0 j
  rw [Nat.zero_add] at e
  cases hf : f a with
  | true => exact decide_eq_true (e.2 ⟨a, h, hf⟩)
  | false =>
    refine decide_eq_false fun hx => ?_
    obtain ⟨b, hb, hb2⟩ := e.1 hx
    rw [h] at hb
    obtain rfl := Option.some.inj hb
    rw [hf] at hb2; cases hb2
theorem idx_nil : idx f [] = [] := rfl
end

end Go.Proofs.Ytlandkindbmbfaa.Plain
/-
  A net of memories in memory: which blocks are its own, and what each says; every block bears a tag (0: not the net's; 1: the net's, never written again; 2: the net itself; 2i+3, 2i+4: the memory number i and its row), so that no two of its rows share a block. No condition beyond those that each lemma states.
-/
namespace Go.Proofs.Ytlandkindbmbfaa
open Go.RowKit Plain

def fitR (s : Shp) (r : Shp) : Bool := fitsB s r.pred r.cells
/-- The rows of a memory of the shape s. -/
def nums (s : Shp) (rs : List Shp) : List Int := idx (fitR s) rs
/-- The memories that take a row. -/
def took (ss : List Shp) (r : Shp) : List Int := idx (fun s => fitR s r) ss

def ptrs (ms : List Nat) : List Value := ms.map fun b => .pointer (some ⟨b, 0, none⟩)
theorem ptrs_length (ms : List Nat) : (ptrs ms).length = ms.length := List.length_map _
theorem ptrs_get {ms : List Nat} {i b : Nat} (h : ms[i]? = some b) : (ptrs ms)[i]? = some (.pointer (some ⟨b, 0, none⟩)) := by unfold ptrs; rw [List.getElem?_map, h]; rfl
theorem ptrs_snoc (ms : List Nat) (b : Nat) : ptrs (ms ++ [b]) = ptrs ms ++ [.pointer (some ⟨b, 0, none⟩)] := by simp [ptrs]

/-- A row lies as it lay where its block does. -/
theorem row_keep {w w' : World} {B n size : Nat} {e : TypeId} {v : Value} {xs : List Value} (h : w.ownsRow B e size v n xs) (hb : ∀ k, v.ownBlock = some k → w'.heap[k]? = w.heap[k]?) : w'.ownsRow B e size v n xs := by
  refine ⟨h.1, ?_⟩
  rcases h.2 with h2 | ⟨g, cap, cur, rfl, hB, hg, r⟩
  · exact .inl h2
  · exact .inr ⟨g, cap, cur, rfl, hB, (hb g rfl).trans hg, r⟩

/-- A test of the shape s, as alpha.test hands it back. -/
def FnIs (w : World) (G : Nat → Nat) (s : Shp) (fv : Value) : Prop :=
  ∃ (bs bc : Nat) (cv q : Value), fv = .func (.func 64) #[] #[.pointer (some ⟨bs, 0, none⟩), .pointer (some ⟨bc, 0, none⟩)] ∧ G bs = 1 ∧ G bc = 1 ∧
    w.heap[bs]? = some (.cells #[.int .i64 s.pred, q] 27 (0, 0)) ∧ w.heap[bc]? = some (.cells #[cv] 25 (0, 0)) ∧ OwnInts w 0 cv s.cells ∧ ∀ k, cv.ownBlock = some k → G k = 1

/-- The memory number i, of the shape s, with the rows l. -/
def MemIs (w : World) (G : Nat → Nat) (s : Shp) (i b : Nat) (l : List Int) : Prop :=
  G b = 2 * i + 3 ∧ ∃ fv rv, w.heap[b]? = some (.cells #[fv, rv, .slice none 0 0] 105 (0, 0)) ∧ FnIs w G s fv ∧ OwnInts w 0 rv l ∧ ∀ k, rv.ownBlock = some k → G k = 2 * i + 4

structure MNet (w : World) (G : Nat → Nat) (X : Nat) (mv : Value) (ms : List Nat) (ss : List Shp) (ls : Nat → List Int) (n : Nat) : Prop where
  zero : ∀ b, w.heap.size ≤ b → G b = 0
  tag : G X = 2
  net : w.heap[X]? = some (.cells #[mv, .int .i64 (n : Int)] 101 (0, 0))
  row : w.ownsRow 0 102 1 mv ss.length (ptrs ms)
  mtag : ∀ k, mv.ownBlock = some k → G k = 1
  mlen : ms.length = ss.length
  mem : ∀ (i b : Nat) (s : Shp), ss[i]? = some s → ms[i]? = some b → MemIs w G s i b (ls i)

section
variable {w w' w1 : World} {G G' : Nat → Nat} {X n i b : Nat} {mv : Value} {ms : List Nat} {ss : List Shp} {ls ls' : Nat → List Int} {s : Shp} {l l' : List Int} {fv rv rv' : Value}

theorem FnIs.keep (h : FnIs w G s fv) (hb : ∀ k, G k = 1 → w'.heap[k]? = w.heap[k]? ∧ G' k = 1) : FnIs w' G' s fv := by
  obtain ⟨bs, bc, cv, q, rfl, h1, h2, h3, h4, h5, h6⟩ := h
  exact ⟨bs, bc, cv, q, rfl, (hb bs h1).2, (hb bc h2).2, (hb bs h1).1.trans h3, (hb bc h2).1.trans h4, row_keep h5 (fun k hk => (hb k (h6 k hk)).1), fun k hk => (hb k (h6 k hk)).2⟩
theorem MemIs.keep (h : MemIs w G s i b l) (hb : ∀ k, G k = 1 ∨ G k = 2 * i + 3 ∨ G k = 2 * i + 4 → w'.heap[k]? = w.heap[k]? ∧ G' k = G k) : MemIs w' G' s i b l := by
  obtain ⟨h0, fv, rv, h1, h2, h3, h4⟩ := h
  have eb := hb b (.inr (.inl h0))
  exact ⟨eb.2.trans h0, fv, rv, eb.1.trans h1, h2.keep (fun k hk => ⟨(hb k (.inl hk)).1, (hb k (.inl hk)).2.trans hk⟩), row_keep h3 (fun k hk => (hb k (.inr (.inr (h4 k hk)))).1), fun k hk => ((hb k (.inr (.inr (h4 k hk)))).2).trans (h4 k hk)⟩
theorem MNet.lt (h : MNet w G X mv ms ss ls n) {k : Nat} (hk : G k ≠ 0) : k < w.heap.size := by
  rcases Nat.lt_or_ge k w.heap.size with h1 | h1
  · exact h1
  · exact absurd (h.zero k h1) hk
/-- What is not the net's may turn. -/
theorem MNet.keep (h : MNet w G X mv ms ss ls n) (hz : w.heap.size ≤ w'.heap.size) (hb : ∀ k, G k ≠ 0 → w'.heap[k]? = w.heap[k]?) : MNet w' G X mv ms ss ls n :=
  ⟨fun k hk => h.zero k (by omega), h.tag, (hb X (by rw [h.tag]; decide)).trans h.net, row_keep h.row (fun k hk => hb k (by rw [h.mtag k hk]; decide)), h.mtag, h.mlen,
    fun i b s h1 h2 => (h.mem i b s h1 h2).keep (fun k hk => ⟨hb k (by rcases hk with hk | hk | hk <;> omega), rfl⟩)⟩
theorem MNet.up (h : MNet w G X mv ms ss ls n) (hb : Below w.heap.size w w') : MNet w' G X mv ms ss ls n := h.keep hb.size (fun k hk => hb.block k (h.lt hk))
theorem MNet.grown (h : MNet w G X mv ms ss ls n) {row : Option Nat} (hg : w.grownBy w' row) (hr : ∀ k, row = some k → G k = 0) : MNet w' G X mv ms ss ls n :=
  h.keep hg.size (fun k hk => hg.block k (h.lt hk) (fun e => hk (hr k e.symm)))
theorem MNet.congr (h : MNet w G X mv ms ss ls n) (he : ∀ i, i < ss.length → ls i = ls' i) : MNet w G X mv ms ss ls' n :=
  ⟨h.zero, h.tag, h.net, h.row, h.mtag, h.mlen, fun i b s h1 h2 => by rw [← he i (List.getElem?_eq_some_iff.1 h1).1]; exact h.mem i b s h1 h2⟩
theorem MNet.same (h : MNet w G X mv ms ss ls n) (e : w'.heap = w.heap) : MNet w' G X mv ms ss ls n := h.keep (by rw [e]; exact Nat.le_refl _) (fun k _ => by rw [e])
theorem MNet.alloc (h : MNet w G X mv ms ss ls n) (o : Obj) : MNet (w.alloc o) G X mv ms ss ls n := h.up (up_alloc w o)
theorem MNet.c0 (h : MNet w G X mv ms ss ls n) : w.cell? ⟨X, 0, none⟩ = some mv := by have := h.net; simp only [World.cell?, this]; rfl
theorem MNet.c1 (h : MNet w G X mv ms ss ls n) : w.cell? ⟨X, 1, none⟩ = some (.int .i64 (n : Int)) := by have := h.net; simp only [World.cell?, this]; rfl
theorem MNet.f0 (h : MNet w G X mv ms ss ls n) : w.frozen? ⟨X, 0, none⟩ = false := by have := h.net; simp only [World.frozen?, this]; rfl
theorem MNet.f1 (h : MNet w G X mv ms ss ls n) : w.frozen? ⟨X, 1, none⟩ = false := by have := h.net; simp only [World.frozen?, this]; rfl
theorem MNet.form (h : MNet w G X mv ms ss ls n) : ∃ a c, mv = .slice a ss.length c ∧ (ss ≠ [] → ∃ g, a = some ⟨g, 0, none⟩) := by
  rcases Joins.ownsRow_forms h.row with ⟨rfl, h0⟩ | ⟨g, cap, rfl⟩
  · exact ⟨none, 0, by rw [h0], fun hn => absurd (List.length_eq_zero_iff.1 h0) hn⟩
  · exact ⟨some ⟨g, 0, none⟩, cap, rfl, fun _ => ⟨g, rfl⟩⟩
/-- The pointer number i. -/
theorem MNet.ptr {g c m : Nat} (h : MNet w G X (.slice (some ⟨g, 0, none⟩) m c) ms ss ls n) (hm : ms[i]? = some b) : w.cell? ⟨g, i, none⟩ = some (.pointer (some ⟨b, 0, none⟩)) := by
  have hi : i < ms.length := (List.getElem?_eq_some_iff.1 hm).1
  have e : m = ss.length := by
    rcases Joins.ownsRow_forms h.row with ⟨h1, _⟩ | ⟨g', cap, h1⟩
    · cases h1
    · simp only [Value.slice.injEq] at h1; exact h1.2.1
  have hr := h.row
  rw [e] at hr
  rw [World.ownsRow.cellAt hr i (by rw [Nat.mul_one, ← h.mlen]; exact hi)]
  exact ptrs_get hm
theorem MemIs.parts (h : MemIs w G s i b l) : ∃ fv rv, w.cell? ⟨b, 0, none⟩ = some fv ∧ w.cell? ⟨b, 1, none⟩ = some rv ∧ w.cell? ⟨b, 2, none⟩ = some (.slice none 0 0) ∧ w.frozen? ⟨b, 1, none⟩ = false ∧ FnIs w G s fv ∧ OwnInts w 0 rv l ∧ (∀ k, rv.ownBlock = some k → G k = 2 * i + 4) ∧
    w.heap[b]? = some (.cells #[fv, rv, .slice none 0 0] 105 (0, 0)) := by
  obtain ⟨h0, fv, rv, h1, h2, h3, h4⟩ := h
  exact ⟨fv, rv, by simp only [World.cell?, h1]; rfl, by simp only [World.cell?, h1]; rfl, by simp only [World.cell?, h1]; rfl, by simp only [World.frozen?, h1]; rfl, h2, h3, h4, h1⟩
theorem FnIs.parts (h : FnIs w G s fv) : ∃ (bs bc : Nat) (cv : Value), fv = .func (.func 64) #[] #[.pointer (some ⟨bs, 0, none⟩), .pointer (some ⟨bc, 0, none⟩)] ∧
    w.cell? ⟨bs, 0, none⟩ = some (.int .i64 s.pred) ∧ w.cell? ⟨bc, 0, none⟩ = some cv ∧ IntsAt w w.heap.size cv s.cells := by
  obtain ⟨bs, bc, cv, q, rfl, h1, h2, h3, h4, h5, h6⟩ := h
  exact ⟨bs, bc, cv, rfl, by simp only [World.cell?, h3]; rfl, by simp only [World.cell?, h4]; rfl, OwnInts.at h5⟩

/-- The count turns. -/
theorem MNet.count (h : MNet w G X mv ms ss ls n) (m : Nat) : MNet (w.setCell ⟨X, 1, none⟩ (.int .i64 (m : Int))) G X mv ms ss ls m := by
  have hb : ∀ k, G k ≠ 2 → (w.setCell ⟨X, 1, none⟩ (.int .i64 (m : Int))).heap[k]? = w.heap[k]? := fun k hk => Below.heap_setCell _ _ _ _ (fun e => hk (by rw [e]; exact h.tag))
  refine ⟨fun k hk => h.zero k (by simpa [World.setCell] using hk), h.tag, ?_, row_keep h.row (fun k hk => hb k (by rw [h.mtag k hk]; decide)), h.mtag, h.mlen,
    fun i b s h1 h2 => (h.mem i b s h1 h2).keep (fun k hk => ⟨hb k (by rcases hk with hk | hk | hk <;> omega), rfl⟩)⟩
  rw [block_setCell h.net]
  rfl

/-- The rows of the memory number i turn: in their own block or in a new one. -/
theorem MNet.put (h : MNet w G X mv ms ss ls n) (hi : ss[i]? = some s) (hm : ms[i]? = some b) (hrb : w.heap[b]? = some (.cells #[fv, rv, .slice none 0 0] 105 (0, 0))) (hf : FnIs w G s fv)
    (hsame : ∀ k, G k ≠ 0 → G k ≠ 2 * i + 4 → w1.heap[k]? = w.heap[k]?) (hG : ∀ k, G k ≠ 0 → G' k = G k) (hzero : ∀ k, w1.heap.size ≤ k → G' k = 0)
    (hown : OwnInts w1 0 rv' l') (htag : ∀ k, rv'.ownBlock = some k → G' k = 2 * i + 4) : MNet (w1.setCell ⟨b, 1, none⟩ rv') G' X mv ms ss (fun j => if j = i then l' else ls j) n := by
  have hil : i < ss.length := (List.getElem?_eq_some_iff.1 hi).1
  have gb : G b = 2 * i + 3 := (h.mem i b s hi hm).1
  have gbn : G' b = 2 * i + 3 := (hG b (by omega)).trans gb
  have hset : ∀ k, G k ≠ 0 → G k ≠ 2 * i + 4 → G k ≠ 2 * i + 3 → (w1.setCell ⟨b, 1, none⟩ rv').heap[k]? = w.heap[k]? := fun k h0 h1 h2 =>
    (Below.heap_setCell _ _ _ _ (fun e => h2 (by rw [e]; exact gb))).trans (hsame k h0 h1)
  have hz2 : (w1.setCell ⟨b, 1, none⟩ rv').heap.size = w1.heap.size := by simp [World.setCell]
  refine ⟨fun k hk => hzero k (by omega), (hG X (by rw [h.tag]; decide)).trans h.tag, (hset X (by rw [h.tag]; decide) (by rw [h.tag]; omega) (by rw [h.tag]; omega)).trans h.net,
    row_keep h.row (fun k hk => hset k (by rw [h.mtag k hk]; decide) (by rw [h.mtag k hk]; omega) (by rw [h.mtag k hk]; omega)), fun k hk => (hG k (by rw [h.mtag k hk]; decide)).trans (h.mtag k hk), h.mlen, ?_⟩
  intro j c t hj hc
  show MemIs _ _ _ _ _ (if j = i then l' else ls j)
  by_cases e : j = i
  · subst e
    rw [hi] at hj; obtain rfl := Option.some.inj hj
    rw [hm] at hc; obtain rfl := Option.some.inj hc
    rw [if_pos rfl]
    have hb1 : w1.heap[b]? = some (.cells #[fv, rv, .slice none 0 0] 105 (0, 0)) := (hsame b (by omega) (by omega)).trans hrb
    refine ⟨gbn, fv, rv', ?_, hf.keep (fun k hk => ⟨hset k (by omega) (by omega) (by omega), (hG k (by omega)).trans hk⟩), ?_, htag⟩
    · rw [block_setCell hb1]; rfl
    · refine row_keep hown (fun k hk => Below.heap_setCell _ _ _ _ (fun e => ?_))
      have := htag k hk
      rw [e] at this
      simp only at this
      omega
  · rw [if_neg e]
    exact (h.mem j c t hj hc).keep (fun k hk => ⟨hset k (by rcases hk with hk | hk | hk <;> omega) (by rcases hk with hk | hk | hk <;> omega) (by rcases hk with hk | hk | hk <;> omega), hG k (by rcases hk with hk | hk | hk <;> omega)⟩)

/-- From w to w' only the net's own blocks that are written may have turned. -/
structure Turned (G : Nat → Nat) (w w' : World) : Prop where
  os : w'.os = w.os
  tape : w'.tape = w.tape
  output : w'.output = w.output
  size : w.heap.size ≤ w'.heap.size
  block : ∀ k, k < w.heap.size → G k < 2 → w'.heap[k]? = w.heap[k]?
theorem Turned.refl (G : Nat → Nat) (w : World) : Turned G w w := ⟨rfl, rfl, rfl, Nat.le_refl _, fun _ _ _ => rfl⟩
theorem Turned.trans (h : Turned G w w1) (k : Turned G' w1 w') (hG : ∀ b, b < w.heap.size → G' b = G b) : Turned G w w' :=
  ⟨k.os.trans h.os, k.tape.trans h.tape, k.output.trans h.output, Nat.le_trans h.size k.size, fun i hi hg => (k.block i (Nat.lt_of_lt_of_le hi h.size) (by rw [hG i hi]; exact hg)).trans (h.block i hi hg)⟩
theorem Turned.same (h : Turned G w w1) (e : w'.heap = w1.heap) (eo : w'.os = w1.os) (et : w'.tape = w1.tape) (ep : w'.output = w1.output) : Turned G w w' :=
  ⟨eo.trans h.os, et.trans h.tape, ep.trans h.output, by rw [e]; exact h.size, fun k hk hg => by rw [e]; exact h.block k hk hg⟩
theorem Turned.of_below (h : Below w.heap.size w w') : Turned G w w' := ⟨h.os, h.tape, h.output, h.size, fun k hk _ => h.block k hk⟩
theorem Turned.of_grown {row : Option Nat} (h : w.grownBy w' row) (hr : ∀ k, row = some k → w.heap.size ≤ k ∨ 2 ≤ G k) : Turned G w w' :=
  ⟨h.os, h.tape, h.output, h.size, fun k hk hg => h.block k hk (fun e => by have := hr k e.symm; omega)⟩
theorem Turned.of_set {a : Addr} {u : Value} (h : 2 ≤ G a.block) : Turned G w (w.setCell a u) :=
  ⟨rfl, rfl, rfl, by simp [World.setCell], fun k hk hg => Below.heap_setCell _ _ _ _ (fun e => by rw [e] at hg; omega)⟩
theorem Turned.below {B : Nat} (h : Turned G w w') (hB : B ≤ w.heap.size) (hG : ∀ k, k < B → G k < 2) : Below B w w' := ⟨h.os, h.tape, h.output, h.size, fun k hk => h.block k (by omega) (hG k hk)⟩
end

end Go.Proofs.Ytlandkindbmbfaa
