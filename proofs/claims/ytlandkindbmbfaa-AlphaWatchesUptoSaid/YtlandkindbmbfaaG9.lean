/-
  Texts of this seat, one behind the other: W22, K12, W14, W20, K13. Conditions: those that each of them states.
-/
import Derived.Test.YtlandkindbmbfaaG8
import Derived.Test.YtlandkindbmbfaaG7
import Derived.Test.YtlandkindbmbfaaG6
import Derived.ArgAppend
/-
  The walk of alpha.New: there is a net just where each shape is valid and stands there once; it is empty. Conditions: the numbers are ints, the lists within the form's own reach.
-/
namespace Go.Proofs.Ytlandkindbmbfaa
open Go.RowKit Plain

theorem ShpsAt.cut {w : World} {B g off n c : Nat} {ss : List Shp} (h : ShpsAt w B (.slice (some ⟨g, off, none⟩) n c) ss) {i : Nat} (hi : i ≤ ss.length) : ShpsAt w B (.slice (some ⟨g, off, none⟩) i c) (ss.take i) := by
  obtain ⟨a, cap, e, h⟩ := h
  simp only [Value.slice.injEq] at e
  obtain ⟨rfl, rfl, rfl⟩ := e
  refine ⟨_, _, by rw [List.length_take, Nat.min_eq_left hi], ?_⟩
  rcases h with rfl | ⟨g', off', h1, hg, hc⟩
  · exact .inl (by simp)
  · refine .inr ⟨g', off', h1, hg, fun j s hs => hc j s ?_⟩
    rw [List.getElem?_take] at hs
    split at hs
    · exact hs
    · cases hs

/-- append at a step of a region that draws, and where the new slice lies. -/
theorem step_append_at {P : Program} (w : World) {ops : Array Oper} {o : Oper} {a : Act} {K : Act → World → Prop} {Q : Exit → Act → World → Prop} {E : Prop} (hgd : o.guard = none) (s x : Operand) (t : TypeId)
    (ho : o.op = .call { callee := .builtin .append, args := #[s, x], argTypes := #[t, t] })
    (base : Nat) (e : TypeId) (i : TypeInfo) (z : Value) (size bytes : Nat) (ht : P.underlying t = some (.slice e)) (hi : P.info? e = some i) (hz : i.zero = some z)
    (hsize : i.size = size) (hby : i.bytes = bytes) (hzs : z.cells.size = size) (hsz : 0 < size)
    (v : Value) (n : Nat) (xs : List Value) (hs : a.eval s = v) (hown : w.ownsRow base e size v n xs)
    (ad : Addr) (m c : Nat) (news : List Value) (hx : a.eval x = .slice (some ad) m c) (hl : news.length = m * size) (hnews : ∀ j u, news[j]? = some u → w.cell? (ad.add j) = some u) (h1 : ∀ u ∈ news, u.oneCell' = true)
    (h63 : n + m ≤ maxLen) (hbytes : (n + m) * bytes ≤ 140737488355328) (hbase : base ≤ w.heap.size)
    (h : ∀ v' w', w'.ownsRow base e size v' (n + m) (xs ++ news) → w.grownBy w' v.ownBlock → (v' = .slice none 0 0 ↔ v = .slice none 0 0 ∧ m = 0) → (v'.ownBlock = v.ownBlock ∨ v'.ownBlock = some w.heap.size) → K (a.put o.dst v') w') :
    if Region.wanted o (yielded ops a.tmps) = true then Oper.wp P o a w K Q else E := by
  have hw : Region.wanted o (yielded ops a.tmps) = true := by simp [Region.wanted, hgd]
  rw [if_pos hw]
  obtain ⟨v', w', hr, h2, h3, h4, h5⟩ := run_append_own_at (P := P) w base t o.type e i z size bytes ht hi hz hsize hby hzs hsz v n xs hown ad m c news hl hnews h1 h63 hbytes hbase
  unfold Oper.wp execOp
  simp only [ho, resolve, invoke, builtin, Sem.run_bind, Sem.run_pure, Result.andThen_ok, List.map_toArray, List.map_cons, List.map_nil, hs, hx, hr]
  exact h v' w' h2 h3 h4 h5

/-- One memory more, behind its test. -/
theorem NewInv.more {w w4 w5 w6 : World} {X i : Nat} {ss : List Shp} {s : Shp} {mv v' fv : Value} {ms : List Nat} {G : Nat → Nat} {o2 : Obj} (h : NewInv w X ss i mv ms G w4) (hs : ss[i]? = some s) (hb : Below w4.heap.size w4 w5) (hf : FnNew w5 w4.heap.size w5.heap.size s fv)
    (hg : ((w5.alloc (.cells #[fv, .slice none 0 0, .slice none 0 0] 105)).alloc o2).grownBy w6 mv.ownBlock) (hown : w6.ownsRow 0 102 1 v' (i + 1) (ptrs ms ++ [.pointer (some ⟨w5.heap.size, 0, none⟩)]))
    (hat : v'.ownBlock = mv.ownBlock ∨ v'.ownBlock = some ((w5.alloc (.cells #[fv, .slice none 0 0, .slice none 0 0] 105)).alloc o2).heap.size) :
    ∃ G', NewInv w X ss (i + 1) v' (ms ++ [w5.heap.size]) G' (w6.setCell ⟨X, 0, none⟩ v') := by
  have b5 : Below w5.heap.size w5 ((w5.alloc (.cells #[fv, .slice none 0 0, .slice none 0 0] 105)).alloc o2) := (up_alloc _ _).alloc (by simp) _
  refine h.grown hs (hb.trans (b5.mono hb.size)) ?_ (hf.up b5) hg hown hat
  rw [Below.heap_alloc _ _ _ (by simp)]
  exact heap_alloc_new _ _

theorem MNet.atGrown {w w1 : World} {G : Nat → Nat} {X n : Nat} {mv : Value} {ms : List Nat} {ss : List Shp} {ls : Nat → List Int} (h : MNet w G X mv ms ss ls n) (hg : w.grownBy w1 mv.ownBlock) :
    w1.cell? ⟨X, 0, none⟩ = some mv ∧ w1.frozen? ⟨X, 0, none⟩ = false := by
  have e : w1.heap[X]? = some (.cells #[mv, .int .i64 (n : Int)] 101 (0, 0)) :=
    (hg.block X (h.lt (by rw [h.tag]; decide)) (fun e => by have := h.mtag X e.symm; rw [h.tag] at this; cases this)).trans h.net
  exact ⟨by simp only [World.cell?, e]; rfl, by simp only [World.frozen?, e]; rfl⟩
theorem NewInv.rowi {w wr : World} {X i : Nat} {ss : List Shp} {mv : Value} {ms : List Nat} {G : Nat → Nat} (h : NewInv w X ss i mv ms G wr) (hi : i ≤ ss.length) : wr.ownsRow 0 102 1 mv i (ptrs ms) := by
  have := h.net.row
  rw [List.length_take, Nat.min_eq_left hi] at this
  exact this

theorem Try.info102 : (Try.prog.info? 102).map (fun i => (i.zero, i.size, i.bytes)) = some (some (.pointer none), 1, 8) := by kernel_rfl
theorem one_ptr (b : Nat) : ∀ x ∈ [Value.pointer (some ⟨b, 0, none⟩)], x.oneCell' = true := by intro x hx; simp at hx; subst hx; rfl

set_option maxRecDepth 100000 in
set_option maxHeartbeats 3200000 in
theorem new_any (ss : List Shp) (u : Value) (w : World) (hu : ShpsAt w w.heap.size u ss) (hcap : ∀ a n c, u = .slice a n c → n ≤ c) (hss : Okays ss) (hn : ss.length ≤ 4398046510976) :
    Calls Try.prog 35 #[u] w (NewIs ss w) := by
  obtain ⟨i2, pi, p0, p1, p2⟩ := info_parts Try.info102
  obtain ⟨a, c, rfl, ha⟩ := hu.form
  have hc := hcap _ _ _ rfl
  have HV := Lib.hid hu
  have HA := Lib.hid ha
  have HSS := Lib.hid hss
  clear hu ha hcap hss
  have N0 := Lib.hid (NewInv.start w ss)
  go_enter Try.func35, Try.ntmps35
  go_wp2
  generalize w.alloc (.cells #[.slice none 0 0, .int .i64 0] 101) = W0 at N0 ⊢
  go_loopw [11] (fun k wr => ∃ (mv : Value) (ms : List Nat) (i : Nat) (G : Nat → Nat), k = .int .i64 (i : Int) ∧ i ≤ ss.length ∧ Hid (NewInv w w.heap.size ss i mv ms G wr) ∧ Hid (NewTo ss i)) (fun k _ => ss.length - (intOf k).toNat)
  case atStart => exact ⟨_, _, 0, _, rfl, Nat.zero_le _, N0, Lib.hid (NewTo.start ss)⟩
  case round =>
    obtain ⟨mv, ms, i, G, rfl, hil, hI, hT⟩ := hrel
    by_cases h1 : i < ss.length
    · obtain ⟨g, off, rfl⟩ := HA.out (ne_of_lt_len h1)
      obtain ⟨s, hs⟩ : ∃ s, ss[i]? = some s := ⟨ss[i]'h1, List.getElem?_eq_getElem h1⟩
      have hsz := hI.out.below.size
      have HV1 := Lib.hid (HV.out.below hI.out.below)
      obtain ⟨hg, us, c0, c1, hus, hny⟩ := ShpsAt.get HV1.out hs
      have HCUT := Lib.hid (ShpsAt.cut HV1.out (Nat.le_of_lt h1))
      have hok := HSS.out s (List.mem_of_getElem? hs)
      obtain ⟨au, cu, rfl, _⟩ := id hus
      have HU := Lib.hid (hus.mono hsz)
      have HNY := Lib.hid hny
      have HSI := Lib.hid hs
      have hic : (i : Int) ≤ (c : Int) := by omega
      clear hus hny hs
      cases hva : validB s with
      | false =>
        have HR := Lib.hid (newB_invalid HSI.out hva)
        have HVA := Lib.hid hva
        clear hva
        go_wp2_with fail
        generalize hx : wr.alloc (.cells #[.int .i64 s.pred, .slice au s.cells.length cu] 27) = w2
        have hb2 : Below wr.heap.size wr w2 := by rw [← hx]; exact up_alloc _ _
        have SB := Lib.hid (show ShBox w2 wr.heap.size s (.slice au s.cells.length cu) by rw [← hx]; exact ShBox.made HU.out)
        have N2 := Lib.hid (hI.out.below.trans (hb2.mono hsz))
        have k0 := SB.out.1
        have k1 := SB.out.2.1
        clear hx hb2 c0 c1
        first | (go_region_law
          (first
            | (go_simp; go_at_call 17; refine (valid_any s _ _ (by exact SB.out.2.2.1) hok.1.ints hok.1.len).mono ?_; rintro e w3 ⟨rfl, hb3'⟩; rw [HVA.out]; have hb3 : Below w2.heap.size w2 w3 := ⟨hb3'.os, hb3'.tape, hb3'.output, hb3'.size, hb3'.block⟩; clear hb3'; have S3 := Lib.hid (SB.out.below hb3); have m0 := S3.out.1; have m1 := S3.out.2.1))) | fail
        all_goals
          have N3 := Lib.hid (N2.out.trans (hb3.mono N2.out.size))
          go_wp2
          go_ret2
          exact .inl ⟨HR.out, rfl, N3.out⟩
      | true =>
        have HVA := Lib.hid hva
        clear hva
        go_wp2_with fail
        generalize hx : wr.alloc (.cells #[.int .i64 s.pred, .slice au s.cells.length cu] 27) = w2
        have hb2 : Below wr.heap.size wr w2 := by rw [← hx]; exact up_alloc _ _
        have SB := Lib.hid (show ShBox w2 wr.heap.size s (.slice au s.cells.length cu) by rw [← hx]; exact ShBox.made HU.out)
        have N2 := Lib.hid (hI.out.below.trans (hb2.mono hsz))
        have U2 := Lib.hid hb2
        have h2z := hb2.size
        have hil2 : (ss.take i).length ≤ 4398046510976 := Nat.le_trans (List.length_take_le _ _) (by omega)
        have HST : Hid (∀ w3 : World, Below w2.heap.size w2 w3 → Calls Try.prog 55 #[.slice (some ⟨g, off, none⟩) i c, .agg #[.int .i64 s.pred, .slice au s.cells.length cu]] w3 (BoolIs w3 (standsB (ss.take i) s))) :=
          fun w3 h3 => stands_any (ss.take i) _ s _ w3 (((HCUT.out.below (hb2.mono hsz)).below (h3.mono (by omega))).mono (by have := h3.size; omega)) (fun t ht => HSS.out t (List.mem_of_mem_take ht)) hil2 (SB.out.below h3).2.2.1 hok.1
        have k0 := SB.out.1
        have k1 := SB.out.2.1
        clear hx hb2 c0 c1
        go_region_held3 (fun w' => w'.cell? ⟨wr.heap.size, 0, none⟩ = some (.int .i64 s.pred) ∧ w'.cell? ⟨wr.heap.size, 1, none⟩ = some (.slice au s.cells.length cu))
          (first | exact ⟨k0, k1⟩ | exact ⟨m0, m1⟩ | exact ⟨q0, q1⟩)
          (first
            | (go_at_call 17; refine (valid_any s _ _ (by exact SB.out.2.2.1) hok.1.ints hok.1.len).mono ?_; rintro e w3 ⟨rfl, hb3'⟩; rw [HVA.out]; have hb3 : Below w2.heap.size w2 w3 := ⟨hb3'.os, hb3'.tape, hb3'.output, hb3'.size, hb3'.block⟩; clear hb3'; have S3 := Lib.hid (SB.out.below hb3); have U3 := Lib.hid (U2.out.trans (hb3.mono U2.out.size)); have m0 := S3.out.1; have m1 := S3.out.2.1)
            | (go_at_call 55; refine (HST.out w3 hb3).mono ?_; rintro e w4 ⟨rfl, hb4'⟩; have hb4 : Below w3.heap.size w3 w4 := ⟨hb4'.os, hb4'.tape, hb4'.output, hb4'.size, hb4'.block⟩; clear hb4'; have S4 := Lib.hid (S3.out.below hb4); have q0 := S4.out.1; have q1 := S4.out.2.1))
        have U4 := Lib.hid (U3.out.trans (hb4.mono U3.out.size))
        cases hst : standsB (ss.take i) s with
        | true =>
          have HR := Lib.hid (newB_twice HSI.out hst)
          have N4 := Lib.hid (hI.out.below.trans (U4.out.mono hsz))
          clear hst
          go_wp2
          go_ret2
          exact .inl ⟨HR.out, rfl, N4.out⟩
        | false =>
          have HT2 := Lib.hid (hT.out.round HSI.out HVA.out hst)
          clear hst
          go_wp2_with fail
          have NI4 := Lib.hid (hI.out.up U4.out)
          obtain ⟨am, cm, hmv, _⟩ := NI4.out.net.form
          rw [List.length_take, Nat.min_eq_left (Nat.le_of_lt h1)] at hmv
          subst hmv
          have x0 := NI4.out.net.c0
          have q0 := S4.out.1
          have q1 := S4.out.2.1
          clear k0 k1
          go_region_law
            (first
              | (go_simp; go_at_call 53; refine (test_any s _ _ (by exact S4.out.2.2.1) HNY.out hok.1 hok.2).mono ?_; rintro e w5 HTI; obtain ⟨fv, rfl, hfn, hb5'⟩ := FnNew.of_test HTI HVA.out; obtain ⟨bs, bc, cv, q, rfl, hrest⟩ := hfn; have HFN : Hid (FnNew w5 w4.heap.size w5.heap.size s _) := ⟨bs, bc, cv, q, rfl, hrest⟩; have hb5 : Below w4.heap.size w4 w5 := ⟨hb5'.os, hb5'.tape, hb5'.output, hb5'.size, hb5'.block⟩; clear hb5' hrest HTI; have NI5 := Lib.hid (NI4.out.up hb5); have x1 := NI5.out.net.c0; have x2 := (NI5.out.net.alloc (.cells #[.func (.func 64) #[] #[.pointer (some ⟨bs, 0, none⟩), .pointer (some ⟨bc, 0, none⟩)], .slice none 0 0, .slice none 0 0] 105)).c0; have x3 := ((NI5.out.net.alloc (.cells #[.func (.func 64) #[] #[.pointer (some ⟨bs, 0, none⟩), .pointer (some ⟨bc, 0, none⟩)], .slice none 0 0, .slice none 0 0] 105)).alloc (.cells #[.pointer (some ⟨w5.heap.size, 0, none⟩)] 102)).c0)
              | (refine step_append_at _ (by rfl) _ _ 99 (by rfl) 0 102 i2 (.pointer none) 1 8 Try.underlying99 pi p0 p1 p2 rfl (by decide) (.slice am i cm) i (ptrs ms) (by rfl) (by exact ((NI5.out.alloc (.cells #[.func (.func 64) #[] #[.pointer (some ⟨bs, 0, none⟩), .pointer (some ⟨bc, 0, none⟩)], .slice none 0 0, .slice none 0 0] 105)).alloc (.cells #[.pointer (some ⟨w5.heap.size, 0, none⟩)] 102)).rowi (Nat.le_of_lt h1)) ⟨w5.heap.size + 1, 0, none⟩ 1 1 [.pointer (some ⟨w5.heap.size, 0, none⟩)] (by rfl) (by rfl) (by exact cell_one_at _ _ (by simp)) (one_ptr _) (by unfold maxLen; omega) (by omega) (by simp) ?_; intro v' w6 hown' hgrow' hnl hat; obtain ⟨g', c', rfl⟩ := Joins.ownsRow_form hown' (by omega); have hgrow : ((w5.alloc (.cells #[.func (.func 64) #[] #[.pointer (some ⟨bs, 0, none⟩), .pointer (some ⟨bc, 0, none⟩)], .slice none 0 0, .slice none 0 0] 105)).alloc (.cells #[.pointer (some ⟨w5.heap.size, 0, none⟩)] 102)).grownBy w6 (Value.slice am i cm).ownBlock := ⟨hgrow'.os, hgrow'.tape, hgrow'.output, hgrow'.size, hgrow'.block⟩; have HX6 := ((NI5.out.alloc (.cells #[.func (.func 64) #[] #[.pointer (some ⟨bs, 0, none⟩), .pointer (some ⟨bc, 0, none⟩)], .slice none 0 0, .slice none 0 0] 105)).alloc (.cells #[.pointer (some ⟨w5.heap.size, 0, none⟩)] 102)).net.atGrown hgrow; have x6 := HX6.1; have f6 := HX6.2; have HM := Lib.hid (NI4.out.more HSI.out hb5 HFN.out hgrow hown' hat)))
          all_goals
            obtain ⟨G', HN⟩ := HM.out
            have HN' := Lib.hid HN
            clear HN
            go_wp2
            go_roundw
            case rel => exact ⟨_, _, i + 1, G', by go_num, by omega, HN', HT2⟩
            case measure => simp only [intOf]; omega
    · have e : i = ss.length := by omega
      subst e
      have HR := Lib.hid hT.out.stop
      have N1 := hI.out.net
      rw [List.take_length] at N1
      have HN := Lib.hid N1
      have HB := Lib.hid hI.out.below
      have HO := Lib.hid hI.out.old
      clear N1
      go_wp2
      go_ret2
      exact .inr ⟨HR.out, _, _, _, _, rfl, HN.out, HB.out, HO.out⟩

end Go.Proofs.Ytlandkindbmbfaa
/-
  Lists of rows and of patterns of the call's own, in memory. No condition beyond those that each lemma states.
-/
namespace Go.Proofs.Ytlandkindbmbfaa
open Go.RowKit Plain

/-- A list of rows of the call's own, each with cells of its own, all from block B on. -/
def OwnRws (w : World) (B : Nat) (v : Value) (ss : List Shp) : Prop :=
  ∃ vs : List Value, vs.length = ss.length ∧ w.ownsRow B 33 2 v ss.length (flat ss vs) ∧ ∀ (j : Nat) (s : Shp) (u : Value), ss[j]? = some s → vs[j]? = some u → OwnInts w B u s.cells
theorem OwnRws.nil (w : World) (B : Nat) : OwnRws w B (.slice none 0 0) [] := ⟨[], rfl, World.ownsRow_nil _ _ _ _, fun j s u h => by simp at h⟩
theorem OwnRws.at {w : World} {B : Nat} {v : Value} {ss : List Shp} (h : OwnRws w B v ss) : ShpsAt w w.heap.size v ss := by
  obtain ⟨vs, hl, ho, hi⟩ := h
  rcases Joins.ownsRow_forms ho with ⟨rfl, h0⟩ | ⟨g, cap, rfl⟩
  · obtain rfl := List.length_eq_zero_iff.1 h0
    exact ⟨none, 0, rfl, .inl rfl⟩
  · refine ⟨_, cap, rfl, .inr ⟨g, 0, rfl, (ho.lt g rfl).2, fun j s hj => ?_⟩⟩
    have hj' : j < ss.length := (List.getElem?_eq_some_iff.1 hj).1
    obtain ⟨u, hu⟩ : ∃ u, vs[j]? = some u := ⟨vs[j]'(by omega), List.getElem?_eq_getElem (by omega)⟩
    have hf := flat_get ss vs j s u hj hu
    have ho2 := hi j s u hj hu
    refine ⟨u, ?_, ?_, ho2.at, ho2.nilly⟩
    · rw [Nat.zero_add, World.ownsRow.cellAt ho (j * 2) (by omega)]; exact hf.1
    · rw [Nat.zero_add, World.ownsRow.cellAt ho (j * 2 + 1) (by omega)]; exact hf.2

/-- The list of rows outlives what grows elsewhere. -/
theorem OwnRws.kept {w w' : World} {B : Nat} {v : Value} {ss : List Shp} {r : Option Nat} (h : OwnRws w B v ss) (hr : r = none ∨ ∃ k, r = some k ∧ w.heap.size ≤ k) (hg : w.grownBy w' r) : OwnRws w' B v ss := by
  obtain ⟨vs, hl, ho, hi⟩ := h
  exact ⟨vs, hl, ho.kept hg (lt_of_own ho hr), fun j s u h1 h2 => (hi j s u h1 h2).kept hg (lt_of_own (hi j s u h1 h2) hr)⟩
theorem OwnRws.heap {w w' : World} {B : Nat} {v : Value} {ss : List Shp} (h : OwnRws w B v ss) (e : w'.heap = w.heap) : OwnRws w' B v ss := by
  obtain ⟨vs, hl, ho, hi⟩ := h
  refine ⟨vs, hl, ?_, fun j s u h1 h2 => ?_⟩
  · unfold World.ownsRow at *; rw [e]; exact ho
  · have := hi j s u h1 h2; unfold OwnInts World.ownsRow at *; rw [e]; exact this

/-- One row more, whose cells are the call's own. -/
theorem OwnRws.snoc {w w2 : World} {B : Nat} {v v' u : Value} {ss : List Shp} {s : Shp} {vs : List Value} (hl : vs.length = ss.length) (ho : w.ownsRow B 33 2 v ss.length (flat ss vs))
    (hi : ∀ (j : Nat) (s : Shp) (u : Value), ss[j]? = some s → vs[j]? = some u → OwnInts w B u s.cells) (hu : OwnInts w B u s.cells)
    (hown2 : w2.ownsRow B 33 2 v' (ss.length + 1) (flat ss vs ++ [.int .i64 s.pred, u])) (hg : w.grownBy w2 v.ownBlock) : OwnRws w2 B v' (ss ++ [s]) := by
  refine ⟨vs ++ [u], by simp [hl], ?_, fun j t x h1 h2 => ?_⟩
  · rw [flat_snoc _ _ _ _ hl, List.length_append, List.length_singleton]; exact hown2
  · have hj : j < (ss ++ [s]).length := (List.getElem?_eq_some_iff.1 h1).1
    rw [List.length_append, List.length_singleton] at hj
    by_cases e : j < ss.length
    · rw [List.getElem?_append_left e] at h1
      rw [List.getElem?_append_left (by omega)] at h2
      have := hi j t x h1 h2
      exact World.ownsRow.kept this hg (types_apart this ho (by decide))
    · obtain rfl : j = ss.length := by omega
      have e1 : (ss ++ [s])[ss.length]? = some s := by simp
      have e2 : (vs ++ [u])[ss.length]? = some u := by rw [← hl]; simp
      rw [e1] at h1; rw [e2] at h2
      obtain rfl := Option.some.inj h1
      obtain rfl := Option.some.inj h2
      exact World.ownsRow.kept hu hg (types_apart hu ho (by decide))

/-- The cells of a list of patterns whose cells' slices are vs. -/
def flatP : List Pt → List Value → List Value
  | s :: ss, u :: vs => .int .i64 s.1 :: u :: flatP ss vs
  | _, _ => []
theorem flatP_length : ∀ (ss : List Pt) (vs : List Value), vs.length = ss.length → (flatP ss vs).length = ss.length * 2
  | [], [], _ => rfl
  | s :: ss, u :: vs, h => by
    have := flatP_length ss vs (by simpa using h)
    simp [flatP, this]; omega
  | [], _ :: _, h => by simp at h
  | _ :: _, [], h => by simp at h
theorem flatP_snoc : ∀ (ss : List Pt) (vs : List Value) (s : Pt) (u : Value), vs.length = ss.length → flatP (ss ++ [s]) (vs ++ [u]) = flatP ss vs ++ [.int .i64 s.1, u]
  | [], [], _, _, _ => rfl
  | t :: ss, x :: vs, s, u, h => by
    have := flatP_snoc ss vs s u (by simpa using h)
    simp [flatP, this]
  | [], _ :: _, _, _, h => by simp at h
  | _ :: _, [], _, _, h => by simp at h
theorem flatP_get : ∀ (ss : List Pt) (vs : List Value) (j : Nat) (s : Pt) (u : Value), ss[j]? = some s → vs[j]? = some u → (flatP ss vs)[j * 2]? = some (.int .i64 s.1) ∧ (flatP ss vs)[j * 2 + 1]? = some u
  | [], _, _, _, _, h, _ => by simp at h
  | _ :: _, [], _, _, _, _, h => by simp at h
  | t :: ss, x :: vs, 0, s, u, h1, h2 => by simp at h1 h2; subst h1 h2; exact ⟨rfl, rfl⟩
  | t :: ss, x :: vs, j + 1, s, u, h1, h2 => by
    have := flatP_get ss vs j s u (by simpa using h1) (by simpa using h2)
    rw [show (j + 1) * 2 = j * 2 + 1 + 1 by omega]
    exact this

/-- A list of patterns of the call's own, each with cells of its own, all from block B on. -/
def OwnPats (w : World) (B : Nat) (v : Value) (ss : List Pt) : Prop :=
  ∃ vs : List Value, vs.length = ss.length ∧ w.ownsRow B 39 2 v ss.length (flatP ss vs) ∧ ∀ (j : Nat) (s : Pt) (u : Value), ss[j]? = some s → vs[j]? = some u → OwnSlots w B u s.2
theorem OwnPats.nil (w : World) (B : Nat) : OwnPats w B (.slice none 0 0) [] := ⟨[], rfl, World.ownsRow_nil _ _ _ _, fun j s u h => by simp at h⟩
theorem OwnPats.at {w : World} {B : Nat} {v : Value} {ss : List Pt} (h : OwnPats w B v ss) : PatsAt w w.heap.size v ss := by
  obtain ⟨vs, hl, ho, hi⟩ := h
  rcases Joins.ownsRow_forms ho with ⟨rfl, h0⟩ | ⟨g, cap, rfl⟩
  · obtain rfl := List.length_eq_zero_iff.1 h0
    exact ⟨none, 0, rfl, .inl rfl⟩
  · refine ⟨_, cap, rfl, .inr ⟨g, 0, rfl, (ho.lt g rfl).2, fun j s hj => ?_⟩⟩
    have hj' : j < ss.length := (List.getElem?_eq_some_iff.1 hj).1
    obtain ⟨u, hu⟩ : ∃ u, vs[j]? = some u := ⟨vs[j]'(by omega), List.getElem?_eq_getElem (by omega)⟩
    have hf := flatP_get ss vs j s u hj hu
    have ho2 := hi j s u hj hu
    refine ⟨u, ?_, ?_, ho2.at⟩
    · rw [Nat.zero_add, World.ownsRow.cellAt ho (j * 2) (by omega)]; exact hf.1
    · rw [Nat.zero_add, World.ownsRow.cellAt ho (j * 2 + 1) (by omega)]; exact hf.2

/-- The list of patterns outlives what grows elsewhere. -/
theorem OwnPats.kept {w w' : World} {B : Nat} {v : Value} {ss : List Pt} {r : Option Nat} (h : OwnPats w B v ss) (hr : r = none ∨ ∃ k, r = some k ∧ w.heap.size ≤ k) (hg : w.grownBy w' r) : OwnPats w' B v ss := by
  obtain ⟨vs, hl, ho, hi⟩ := h
  exact ⟨vs, hl, ho.kept hg (lt_of_own ho hr), fun j s u h1 h2 => (hi j s u h1 h2).kept hg (lt_of_own (hi j s u h1 h2) hr)⟩
theorem OwnPats.heap {w w' : World} {B : Nat} {v : Value} {ss : List Pt} (h : OwnPats w B v ss) (e : w'.heap = w.heap) : OwnPats w' B v ss := by
  obtain ⟨vs, hl, ho, hi⟩ := h
  refine ⟨vs, hl, ?_, fun j s u h1 h2 => ?_⟩
  · unfold World.ownsRow at *; rw [e]; exact ho
  · have := hi j s u h1 h2; unfold OwnSlots World.ownsRow at *; rw [e]; exact this

/-- One pattern more, whose cells are the call's own. -/
theorem OwnPats.snoc {w w2 : World} {B : Nat} {v v' u : Value} {ss : List Pt} {s : Pt} {vs : List Value} (hl : vs.length = ss.length) (ho : w.ownsRow B 39 2 v ss.length (flatP ss vs))
    (hi : ∀ (j : Nat) (s : Pt) (u : Value), ss[j]? = some s → vs[j]? = some u → OwnSlots w B u s.2) (hu : OwnSlots w B u s.2)
    (hown2 : w2.ownsRow B 39 2 v' (ss.length + 1) (flatP ss vs ++ [.int .i64 s.1, u])) (hg : w.grownBy w2 v.ownBlock) : OwnPats w2 B v' (ss ++ [s]) := by
  refine ⟨vs ++ [u], by simp [hl], ?_, fun j t x h1 h2 => ?_⟩
  · rw [flatP_snoc _ _ _ _ hl, List.length_append, List.length_singleton]; exact hown2
  · have hj : j < (ss ++ [s]).length := (List.getElem?_eq_some_iff.1 h1).1
    rw [List.length_append, List.length_singleton] at hj
    by_cases e : j < ss.length
    · rw [List.getElem?_append_left e] at h1
      rw [List.getElem?_append_left (by omega)] at h2
      have := hi j t x h1 h2
      exact World.ownsRow.kept this hg (types_apart this ho (by decide))
    · obtain rfl : j = ss.length := by omega
      have e1 : (ss ++ [s])[ss.length]? = some s := by simp
      have e2 : (vs ++ [u])[ss.length]? = some u := by rw [← hl]; simp
      rw [e1] at h1; rw [e2] at h2
      obtain rfl := Option.some.inj h1
      obtain rfl := Option.some.inj h2
      exact World.ownsRow.kept hu hg (types_apart hu ho (by decide))


theorem OwnRws.up {w w' : World} {B : Nat} {v : Value} {l : List Shp} (h : OwnRws w B v l) (hb : Below w.heap.size w w') : OwnRws w' B v l :=
  h.kept (.inl rfl) ⟨hb.os, hb.tape, hb.output, hb.size, fun k hk _ => hb.block k hk⟩
theorem OwnPats.up {w w' : World} {B : Nat} {v : Value} {l : List Pt} (h : OwnPats w B v l) (hb : Below w.heap.size w w') : OwnPats w' B v l :=
  h.kept (.inl rfl) ⟨hb.os, hb.tape, hb.output, hb.size, fun k hk _ => hb.block k hk⟩
/-- A net's call leaves rows that are not the net's. -/
theorem OwnRws.turned {w w' : World} {G : Nat → Nat} {B : Nat} {v : Value} {l : List Shp} (h : OwnRws w B v l) (ht : Turned G w w') (hG : ∀ k, B ≤ k → G k < 2) : OwnRws w' B v l := by
  obtain ⟨vs, hl, ho, hi⟩ := h
  exact ⟨vs, hl, row_keep ho (fun k hk => ht.block k (World.ownsRow.lt ho k hk).2 (hG k (World.ownsRow.lt ho k hk).1)),
    fun j s u h1 h2 => row_keep (hi j s u h1 h2) (fun k hk => ht.block k (World.ownsRow.lt (hi j s u h1 h2) k hk).2 (hG k (World.ownsRow.lt (hi j s u h1 h2) k hk).1))⟩
theorem OwnRws.form {w : World} {B : Nat} {v : Value} {l : List Shp} (h : OwnRws w B v l) : ∃ a c, v = .slice a l.length c ∧ (l ≠ [] → ∃ g, a = some ⟨g, 0, none⟩) := by
  obtain ⟨vs, hl, ho, _⟩ := h
  rcases Joins.ownsRow_forms ho with ⟨rfl, h0⟩ | ⟨g, cap, rfl⟩
  · exact ⟨none, 0, by rw [h0], fun hn => absurd (List.length_eq_zero_iff.1 h0) hn⟩
  · exact ⟨some ⟨g, 0, none⟩, cap, rfl, fun _ => ⟨g, rfl⟩⟩
/-- The row number i. -/
theorem OwnRws.get {w : World} {B g n c : Nat} {l : List Shp} (h : OwnRws w B (.slice (some ⟨g, 0, none⟩) n c) l) {i : Nat} {r : Shp} (hi : l[i]? = some r) :
    (B ≤ g ∧ g < w.heap.size) ∧ ∃ u, w.cell? ⟨g, i * 2, none⟩ = some (.int .i64 r.pred) ∧ w.cell? ⟨g, i * 2 + 1, none⟩ = some u ∧ OwnInts w B u r.cells := by
  obtain ⟨vs, hl, ho, hin⟩ := h
  have hil : i < l.length := (List.getElem?_eq_some_iff.1 hi).1
  obtain ⟨u, hu⟩ : ∃ u, vs[i]? = some u := ⟨vs[i]'(by omega), List.getElem?_eq_getElem (by omega)⟩
  have hf := flat_get l vs i r u hi hu
  have e : n = l.length := by
    rcases Joins.ownsRow_forms ho with ⟨h1, _⟩ | ⟨g', cap, h1⟩
    · cases h1
    · simp only [Value.slice.injEq] at h1; exact h1.2.1
  rw [e] at ho
  refine ⟨World.ownsRow.lt ho g rfl, u, ?_, ?_, hin i r u hi hu⟩
  · rw [World.ownsRow.cellAt ho (i * 2) (by omega)]; exact hf.1
  · rw [World.ownsRow.cellAt ho (i * 2 + 1) (by omega)]; exact hf.2
theorem one_pat (p : Int) {w : World} {B : Nat} {u : Value} {l : List Slt} (h : OwnSlots w B u l) : ∀ x ∈ [Value.int .i64 p, u], x.oneCell' = true := by
  obtain ⟨a, n, c, rfl⟩ := h.form
  intro x hx
  simp only [List.mem_cons, List.not_mem_nil, or_false] at hx
  rcases hx with rfl | rfl <;> rfl
theorem Try.info39 : (Try.prog.info? 39).map (fun i => (i.zero, i.size, i.bytes)) = some (some (.agg #[.int .i64 0, .slice none 0 0]), 2, 32) := by kernel_rfl
theorem Try.info33 : (Try.prog.info? 33).map (fun i => (i.zero, i.size, i.bytes)) = some (some (.agg #[.int .i64 0, .slice none 0 0]), 2, 32) := by kernel_rfl

end Go.Proofs.Ytlandkindbmbfaa
/-
  append onto a list of the call's own by one int: the new list, and the old one, which reads as it did; at a step of a region that draws its order, guarded or not. No condition beyond those that each lemma states.
-/
namespace Go.Proofs.Ytlandkindbmbfaa
open Go.RowKit Plain

theorem prefix_own {w : World} {B g n m cap size : Nat} {e : TypeId} {xs ys : List Value} (h : w.ownsRow B e size (.slice (some ⟨g, 0, none⟩) (n + m) cap) (n + m) (xs ++ ys)) (hx : xs.length = n * size) :
    w.ownsRow B e size (.slice (some ⟨g, 0, none⟩) n cap) n xs := by
  rcases h.2 with ⟨h', _⟩ | ⟨g', cap', cur, h', hb, hg, hn, hc, hs, ht⟩
  · simp at h'
  · simp only [Value.slice.injEq, Option.some.injEq, Addr.mk.injEq, and_true, true_and] at h'
    obtain ⟨rfl, rfl⟩ := h'
    refine ⟨hx, .inr ⟨g, cap, cur, rfl, hb, hg, by omega, hc, hs, ?_⟩⟩
    have : (cur.toList.take ((n + m) * size)).take (n * size) = xs := by rw [ht, List.take_append_of_le_length (by omega), ← hx, List.take_length]
    rw [List.take_take, Nat.min_eq_left (by rw [Nat.add_mul]; omega)] at this
    exact this
theorem OwnInts.up {w w' : World} {B : Nat} {v : Value} {l : List Int} (h : OwnInts w B v l) (hb : Below w.heap.size w w') : OwnInts w' B v l := by
  refine ⟨h.1, ?_⟩
  rcases h.2 with h2 | ⟨g, cap, cur, rfl, hB, hg, r⟩
  · exact .inl h2
  · exact .inr ⟨g, cap, cur, rfl, hB, (hb.block g (Array.getElem?_eq_some_iff.1 hg).1).trans hg, r⟩

theorem run_append_keep {w : World} {B : Nat} {v : Value} {l : List Int} {x : Int} {ad : Addr} {c : Nat} {ty : TypeId} (hown : OwnInts w B v l) (hB : B ≤ w.heap.size)
    (hnew : ∀ j u, [Value.int .i64 x][j]? = some u → w.cell? (ad.add j) = some u) (hl : l.length ≤ 17592186044400) :
    ∃ v' w', (Builtin.append_ #[25, 25] ty #[v, .slice (some ad) 1 c]).run Try.prog w = .ok v' w' ∧ IntsAt w' w'.heap.size v' (l ++ [x]) ∧ OwnInts w' B v l ∧ Below B w w' := by
  obtain ⟨i3, qi, q0, q1, q2⟩ := info_parts Try.info3
  have hll : (lits l).length = l.length * 1 := by rw [lits_length, Nat.mul_one]
  rcases Joins.ownsRow_forms hown with ⟨rfl, h0⟩ | ⟨g, cap, rfl⟩
  · obtain rfl := List.length_eq_zero_iff.1 h0
    obtain ⟨v', w', hr, h2, h3, _⟩ := run_append_own (P := Try.prog) w B 25 ty 3 i3 (.int .i64 0) 1 8 Try.underlying25 qi q0 q1 q2 rfl (by decide) (.slice none 0 0) 0 [] (World.ownsRow_nil _ _ _ _) ad 1 c [.int .i64 x] rfl hnew (one_i64 x) (by decide) (by decide) hB
    refine ⟨v', w', hr, ?_, World.ownsRow_nil _ _ _ _, (Below.refl _ _).grown h3 hB (fun k hk => by cases hk)⟩
    exact OwnInts.at (l := [x]) h2
  · by_cases hroom : l.length + 1 ≤ cap
    · obtain ⟨w', hr, h2, h3⟩ := run_append_fits (P := Try.prog) (w := w) B 25 ty 3 i3 1 Try.underlying25 qi q1 g l.length cap (lits l) hown ad 1 c [.int .i64 x] rfl hnew (one_i64 x) hroom
      have hB2 : B ≤ g := (hown.lt g rfl).1
      refine ⟨_, w', hr, ?_, prefix_own h2 hll, (Below.refl _ _).grown h3 hB (fun k hk => by simp at hk; omega)⟩
      refine OwnInts.at (B := B) (l := l ++ [x]) ?_
      unfold OwnInts
      rw [lits_snoc, List.length_append, List.length_singleton]; exact h2
    · obtain ⟨v', w', hr, h2, h3⟩ := run_append_arg_grows (P := Try.prog) w 25 ty 3 i3 (.int .i64 0) 1 8 Try.underlying25 qi q0 q1 q2 rfl (by decide) ⟨g, 0, none⟩ l.length cap (lits l) hll (World.ownsRow.cells hown rfl) ad 1 c [.int .i64 x] rfl hnew (by omega) (by unfold maxLen; omega) (by omega)
      refine ⟨v', w', hr, ?_, World.ownsRow.kept hown h3 (.inr (by simp [Value.ownBlock])), (Below.refl _ _).grown h3 hB (fun k hk => by cases hk)⟩
      refine OwnInts.at (B := w.heap.size) (l := l ++ [x]) ?_
      unfold OwnInts
      rw [lits_snoc, List.length_append, List.length_singleton]; exact h2

set_option maxRecDepth 100000 in
theorem step_append_keep (w : World) {ops : Array Oper} {o : Oper} {a : Act} {K : Act → World → Prop} {Q : Exit → Act → World → Prop} {E : Prop} (hw : Region.wanted o (yielded ops a.tmps) = true) (s x : Operand)
    (ho : o.op = .call { callee := .builtin .append, args := #[s, x], argTypes := #[25, 25] })
    (B : Nat) (v : Value) (l : List Int) (hs : a.eval s = v) (hown : OwnInts w B v l) (ad : Addr) (c : Nat) (y : Int) (hx : a.eval x = .slice (some ad) 1 c)
    (hnew : ∀ j u, [Value.int .i64 y][j]? = some u → w.cell? (ad.add j) = some u) (hl : l.length ≤ 17592186044400) (hB : B ≤ w.heap.size)
    (h : ∀ v' w', IntsAt w' w'.heap.size v' (l ++ [y]) → OwnInts w' B v l → Below B w w' → K (a.put o.dst v') w') :
    if Region.wanted o (yielded ops a.tmps) = true then Oper.wp Try.prog o a w K Q else E := by
  rw [if_pos hw]
  obtain ⟨v', w', hr, h1, h2, h3⟩ := run_append_keep (ty := o.type) hown hB hnew hl
  unfold Oper.wp execOp
  simp only [ho, resolve, invoke, builtin, Sem.run_bind, Sem.run_pure, Result.andThen_ok, List.map_toArray, List.map_cons, List.map_nil, hs, hx]
  rw [hr]
  exact h v' w' h1 h2 h3

theorem lits_set (l : List Int) (j : Nat) (x : Int) : (lits l).set j (.int .i64 x) = lits (l.set j x) := by
  unfold lits; rw [List.map_set]

end Go.Proofs.Ytlandkindbmbfaa
/-
  The walk of a net's Undo: every memory's rows are cut to those that are less than the mark. Conditions: the numbers are ints, the lists within the form's own reach.
-/
namespace Go.Proofs.Ytlandkindbmbfaa
open Go.RowKit Plain

/-- The length of the slice in a cell. -/
def lenAt (w : World) (b : Nat) : Nat := match w.cell? ⟨b, 1, none⟩ with | some (.slice _ n _) => n | _ => 0
def undoIn (A T ls : Nat → List Int) (i r : Nat) : Nat → List Int := fun j => if j < i then A j else if j = i then A i ++ (T i).take r else ls j
def undoLs (A ls : Nat → List Int) (i : Nat) : Nat → List Int := fun j => if j < i then A j else ls j
theorem at_append_left {l m : List Int} {k : Nat} (h : k < l.length) : at' (l ++ m) k = at' l k := by unfold at'; rw [List.getElem?_append_left h]
theorem at_mem {l : List Int} {k : Nat} (h : k < l.length) : at' l k ∈ l := by unfold at'; rw [List.getElem?_eq_getElem h]; exact List.getElem_mem h
theorem at_append_take {l m : List Int} {r : Nat} : at' (l ++ m.take (r + 1)) (l.length + r) = at' m r := by
  unfold at'; rw [List.getElem?_append_right (by omega), Nat.add_sub_cancel_left, List.getElem?_take, if_pos (by omega)]

section
variable {w : World} {G : Nat → Nat} {X n : Nat} {mv : Value} {ms : List Nat} {ss : List Shp} {ls : Nat → List Int}

theorem undo_no (h : MNet w G X mv ms ss ls n) (m : Int) (hm : m < 0 ∨ (n : Int) < m) : Calls Try.prog 46 #[.pointer (some ⟨X, 0, none⟩), .int .i64 m] w fun e w' => e = .returned (.int .i64 2) ∧ w = w' := by
  have c1 := h.c1
  clear h
  by_cases h0 : m < 0
  · clear hm
    go_enter Try.func46, Try.ntmps46
    go_wp2
    go_ret
    exact ⟨rfl, rfl⟩
  · have h1 : (n : Int) < m := by omega
    clear hm
    go_enter Try.func46, Try.ntmps46
    go_wp2
    go_ret
    exact ⟨rfl, rfl⟩

theorem lenAt_set {u : World} {b k c : Nat} {a : Option Addr} {fv rv z : Value} (h : u.heap[b]? = some (.cells #[fv, rv, z] 105 (0, 0))) : lenAt (u.setCell ⟨b, 1, none⟩ (.slice a k c)) b = k := by
  have h2 := block_setCell (o := 1) (u := .slice a k c) h
  unfold lenAt
  have : (u.setCell ⟨b, 1, none⟩ (.slice a k c)).cell? ⟨b, 1, none⟩ = some (.slice a k c) := by simp only [World.cell?, h2]; rfl
  rw [this]

/-- The last row of a memory goes. -/
theorem pop_put {A T : Nat → List Int} {i b r K gr cr m n2 : Nat} {s : Shp} {l : List Int} {fv : Value} {x : Int} (h : MNet w G X mv ms ss (undoIn A T ls i r) n2) (hi : ss[i]? = some s) (hm : ms[i]? = some b)
    (hrb : w.heap[b]? = some (.cells #[fv, .slice (some ⟨gr, 0, none⟩) l.length cr, .slice none 0 0] 105 (0, 0))) (hf : FnIs w G s fv) (ho : OwnInts w 0 (.slice (some ⟨gr, 0, none⟩) l.length cr) l)
    (ht : ∀ k, (Value.slice (some ⟨gr, 0, none⟩) l.length cr).ownBlock = some k → G k = 2 * i + 4) (hl : l = A i ++ (T i).take r) (hx : x = at' l K) (hK : l.length = K + 1) (h2 : (m : Int) ≤ x) (hA : ∀ x ∈ A i, x < (m : Int)) (hr : r ≤ (T i).length) :
    ∃ r', r' ≤ (T i).length ∧ ∀ u : World, u.heap = w.heap → MNet (u.setCell ⟨b, 1, none⟩ (.slice (some ⟨gr, 0, none⟩) K cr)) G X mv ms ss (undoIn A T ls i r') n2 := by
  match r with
  | 0 =>
    exfalso
    rw [List.take_zero, List.append_nil] at hl
    have := hA _ (at_mem (l := A i) (k := K) (by rw [← hl]; omega))
    rw [← hl, ← hx] at this
    omega
  | r + 1 =>
    refine ⟨r, by omega, fun u hu => ?_⟩
    have e1 : l = (A i ++ (T i).take r) ++ [at' (T i) r] := by
      rw [hl, List.append_assoc, List.take_add_one]
      unfold at'
      rw [List.getElem?_eq_getElem (show r < (T i).length by omega)]; rfl
    have e2 : (A i ++ (T i).take r).length = K := by
      have := congrArg List.length e1
      rw [List.length_append, List.length_singleton] at this
      omega
    have ho2 : w.ownsRow 0 3 1 (.slice (some ⟨gr, 0, none⟩) (K + 1) cr) (K + 1) (lits (A i ++ (T i).take r) ++ [.int .i64 (at' (T i) r)]) := by
      have := ho
      unfold OwnInts at this
      rw [hK] at this
      rw [← lits_snoc, ← e1]; exact this
    have ho3 := prefix_own ho2 (by rw [lits_length, e2, Nat.mul_one])
    have hp := h.put (w1 := u) (G' := G) (rv' := .slice (some ⟨gr, 0, none⟩) K cr) (l' := A i ++ (T i).take r) hi hm hrb hf (fun k _ _ => by rw [hu]) (fun k _ => rfl) (fun k hk => h.zero k (by rw [← hu]; exact hk))
      (by unfold OwnInts; rw [e2]; exact row_keep ho3 (fun k _ => by rw [hu])) (fun k hk => ht k hk)
    refine hp.congr (fun j _ => ?_)
    unfold undoIn
    by_cases hj : j = i
    · subst hj; rw [if_pos rfl, if_neg (by omega), if_pos rfl]
    · rw [if_neg hj]
      split
      · rfl
      · rfl

set_option maxRecDepth 100000 in
set_option maxHeartbeats 3200000 in
theorem undo_yes (h : MNet w G X mv ms ss ls n) {m : Nat} (hm : m ≤ n) (hss : ss.length ≤ 4398046510976) (A T : Nat → List Int) (hl : ∀ i, i < ss.length → ls i = A i ++ T i)
    (hA : ∀ i, i < ss.length → ∀ x ∈ A i, x < (m : Int)) (hT : ∀ i, i < ss.length → ∀ x ∈ T i, (m : Int) ≤ x) (hb : ∀ i, i < ss.length → (ls i).length ≤ 17592186044400) :
    Calls Try.prog 46 #[.pointer (some ⟨X, 0, none⟩), .int .i64 (m : Int)] w fun e w' => e = .returned (.int .i64 0) ∧ MNet w' G X mv ms ss A m ∧ Turned G w w' := by
  have c1 := h.c1
  have f1 := h.f1
  have h0 := Lib.hid (h.count m)
  have ht := Lib.hid (Turned.of_set (w := w) (G := G) (a := ⟨X, 1, none⟩) (u := .int .i64 (m : Int)) (show 2 ≤ G X by rw [h.tag]; decide))
  obtain ⟨a, c, rfl, hg⟩ := h.form
  have HG := Lib.hid hg
  have HL := hl
  have HA := Lib.hid hA
  have HT := Lib.hid hT
  have HB := Lib.hid hb
  have c0 := h0.out.c0
  clear h hg hA hT hb
  have hd1 : decide (n < m) = false := decide_eq_false (by omega)
  have hd2 : decide ((m : Int) < 0) = false := decide_eq_false (by omega)
  go_enter Try.func46, Try.ntmps46
  go_wp2
  generalize w.setCell ⟨X, 1, none⟩ (.int .i64 (m : Int)) = w0 at h0 ht c0 ⊢
  clear c1 f1 c0
  go_loopw [28] (fun k wr => ∃ i : Nat, k = .int .i64 (i : Int) ∧ i ≤ ss.length ∧ Hid (MNet wr G X (.slice a ss.length c) ms ss (undoLs A ls i) m) ∧ Hid (Turned G w wr)) (fun k _ => ss.length - (intOf k).toNat)
  case atStart => exact ⟨0, rfl, Nat.zero_le _, (h0.out.congr (fun i _ => by simp [undoLs])), ht.out⟩
  case round =>
    obtain ⟨i, rfl, hil, hM, hR⟩ := hrel
    by_cases h1 : i < ss.length
    · obtain ⟨g, rfl⟩ := HG.out (fun e => by rw [e] at h1; simp at h1)
      obtain ⟨b, hb⟩ : ∃ b, ms[i]? = some b := ⟨ms[i]'(by rw [hM.out.mlen]; exact h1), List.getElem?_eq_getElem _⟩
      obtain ⟨s, hs⟩ : ∃ s, ss[i]? = some s := ⟨ss[i]'h1, List.getElem?_eq_getElem h1⟩
      have k1 := hM.out.ptr hb
      have HSI := Lib.hid hs
      have HBI := Lib.hid hb
      have hsplit := HL i h1
      clear hs hb
      go_wp2
      go_loopw [] (fun wr => ∃ r : Nat, r ≤ (T i).length ∧ Hid (MNet wr G X (.slice (some ⟨g, 0, none⟩) ss.length c) ms ss (undoIn A T ls i r) m) ∧ Hid (Turned G w wr)) (fun wr => lenAt wr b)
      case atStart =>
        refine ⟨(T i).length, Nat.le_refl _, hM.out.congr (fun j hj => ?_), hR.out⟩
        unfold undoIn undoLs
        split
        · rfl
        · split
          · rename_i e; subst e; rw [List.take_length, hsplit]
          · rfl
      case round =>
        obtain ⟨r, hr, hM2, hR2⟩ := hrel
        have hmem := hM2.out.mem i b s HSI.out HBI.out
        rw [show undoIn A T ls i r i = A i ++ (T i).take r by simp [undoIn]] at hmem
        obtain ⟨l, hl⟩ : ∃ l, l = A i ++ (T i).take r := ⟨_, rfl⟩
        rw [← hl] at hmem
        obtain ⟨fv, rv, _, r1, _, f1, FN, ro, rt, rb⟩ := hmem.parts
        have RO := Lib.hid ro
        have RB := Lib.hid rb
        have RT := Lib.hid rt
        have HLL := Lib.hid hl
        clear ro rb rt hl hmem
        have hexit : A i ++ (T i).take r = A i → MNet wr G X (.slice (some ⟨g, 0, none⟩) ss.length c) ms ss (undoLs A ls (i + 1)) m := fun e => hM2.out.congr (fun j hj => by
          unfold undoIn undoLs
          split
          · rw [if_pos (by omega)]
          · split
            · rename_i e2; subst e2; rw [if_pos (by omega), e]
            · rw [if_neg (by omega)])
        have HX := Lib.hid hexit
        clear hexit
        by_cases h0 : l.length = 0
        · obtain ⟨ar, cr, rfl, _⟩ := RO.out.at
          have HN := Lib.hid (HX.out (by
            have : l = [] := List.length_eq_zero_iff.1 h0
            rw [HLL.out] at this
            have h2 := List.append_eq_nil_iff.1 this
            rw [h2.1, h2.2]; rfl))
          rw [h0] at r1
          go_wp2_with fail
          go_quiet (fail)
          generalize hW : wr.drewN _ = w2
          have H2 := Lib.hid (show MNet w2 G X (.slice (some ⟨g, 0, none⟩) ss.length c) ms ss (undoLs A ls (i + 1)) m by rw [← hW]; exact HN.out.same (by simp))
          have T2 := Lib.hid (show Turned G w w2 by rw [← hW]; exact hR2.out.same rfl rfl rfl rfl)
          clear hW r1 f1
          go_wp2
          go_roundw
          case rel => exact ⟨i + 1, by go_num, by omega, H2.out, T2.out⟩
          case measure => simp only [intOf]; omega
        · obtain ⟨K, hK⟩ : ∃ K, l.length = K + 1 := ⟨l.length - 1, by omega⟩
          obtain ⟨gr, cr, rfl⟩ := Joins.ownsRow_form RO.out (by omega)
          obtain ⟨x, hx⟩ : ∃ x, x = at' l K := ⟨_, rfl⟩
          have cx : wr.cell? ⟨gr, K, none⟩ = some (.int .i64 x) := by
            have := OwnInts.cell RO.out (j := K) (by omega)
            rw [Nat.zero_add] at this
            rw [this, hx]
          have hlb : l.length ≤ 17592186044400 := by
            rw [HLL.out]
            have := HB.out i h1
            rw [hsplit, List.length_append] at this
            rw [List.length_append, List.length_take]; omega
          have hcr : (K : Int) ≤ (cr : Int) := by
            rcases RO.out.2 with ⟨e, _⟩ | ⟨g', cap', cur, e, _, _, hle, _⟩
            · cases e
            · simp only [Value.slice.injEq] at e
              obtain ⟨_, _, rfl⟩ := e
              omega
          rw [hK] at r1 hlb
          have HXX := Lib.hid hx
          have HKK := Lib.hid hK
          clear hx hK h0
          by_cases h2 : x < (m : Int)
          · have HN := Lib.hid (HX.out (by
              match r with
              | 0 => simp
              | r + 1 =>
                exfalso
                have e1 : l.length = (A i).length + (r + 1) := by rw [HLL.out, List.length_append, List.length_take]; omega
                have e2 : K = (A i).length + r := by have := HKK.out; omega
                have e3 : x = at' (T i) r := by rw [HXX.out, HLL.out, e2]; exact at_append_take
                have := HT.out i h1 _ (at_mem (show r < (T i).length by omega))
                omega))
            have hd : decide ((m : Int) ≤ x) = false := decide_eq_false (by omega)
            clear HX
            go_wp2_with fail
            go_quiet (fail)
            generalize hW : wr.drewN _ = w2
            have H2 := Lib.hid (show MNet w2 G X (.slice (some ⟨g, 0, none⟩) ss.length c) ms ss (undoLs A ls (i + 1)) m by rw [← hW]; exact HN.out.same (by simp))
            have T2 := Lib.hid (show Turned G w w2 by rw [← hW]; exact hR2.out.same rfl rfl rfl rfl)
            clear hW r1 f1 cx
            go_wp2
            go_roundw
            case rel => exact ⟨i + 1, by go_num, by omega, H2.out, T2.out⟩
            case measure => simp only [intOf]; omega
          · have hd : decide ((m : Int) ≤ x) = true := decide_eq_true (by omega)
            go_wp2_with fail
            go_quiet (fail)
            generalize hW : wr.drewN _ = w2
            have H2 := Lib.hid (show MNet w2 G X (.slice (some ⟨g, 0, none⟩) ss.length c) ms ss (undoIn A T ls i r) m by rw [← hW]; exact hM2.out.same (by simp))
            have T2 := Lib.hid (show Turned G w w2 by rw [← hW]; exact hR2.out.same rfl rfl rfl rfl)
            have HH := Lib.hid (show w2.heap = wr.heap by rw [← hW]; rfl)
            have HW2 := Lib.hid (pop_put H2.out HSI.out HBI.out (by rw [HH.out]; exact RB.out) (FN.keep (G' := G) (fun k hk => ⟨by rw [HH.out], hk⟩)) (show OwnInts w2 0 _ l from row_keep RO.out (fun k _ => by rw [HH.out])) RT.out HLL.out HXX.out HKK.out h2 (HA.out i h1) hr)
            have L1 := Lib.hid (show lenAt wr b = K + 1 by unfold lenAt; rw [r1])
            have L2 := Lib.hid (fun (u : World) (e : u.heap = w2.heap) => (show lenAt (u.setCell ⟨b, 1, none⟩ (.slice (some ⟨gr, 0, none⟩) K cr)) b = K from lenAt_set (by rw [e, HH.out]; exact RB.out)))
            have T3 := Lib.hid (fun (u : World) (hu : Turned G w u) => (show Turned G w (u.setCell ⟨b, 1, none⟩ (.slice (some ⟨gr, 0, none⟩) K cr)) from hu.trans (G' := G) (Turned.of_set (a := ⟨b, 1, none⟩) (show 2 ≤ G b by rw [(H2.out.mem i b s HSI.out HBI.out).1]; omega)) (fun _ _ => rfl)))
            have r2 : w2.cell? ⟨b, 1, none⟩ = some (.slice (some ⟨gr, 0, none⟩) (K + 1) cr) := by rw [← hW]; exact r1
            have f2 : w2.frozen? ⟨b, 1, none⟩ = false := by rw [← hW]; exact f1
            clear hW r1 f1 cx
            go_wp2_with fail
            go_region
            go_roundw
            case rel =>
              obtain ⟨r', hr', hN⟩ := HW2.out
              (repeat apply Exists.intro)
              exact ⟨⟨r', hr', (hN w2 rfl).same rfl, (T3.out w2 T2.out).same rfl rfl rfl rfl⟩, rfl⟩
            case measure =>
              rw [L1.out]
              exact Nat.lt_of_le_of_lt (Nat.le_of_eq (L2.out w2 rfl)) (Nat.lt_succ_self _)
    · have e : i = ss.length := by omega
      subst e
      go_wp2
      go_ret
      exact ⟨rfl, hM.out.congr (fun j hj => by simp [undoLs, hj]), hR.out⟩

end
end Go.Proofs.Ytlandkindbmbfaa
/-
  A net that holds some rows: what each of its calls does to it. Conditions: the numbers are ints, the lists within the form's own reach.
-/
namespace Go.Proofs.Ytlandkindbmbfaa
open Go.RowKit Plain

/-- The memories of the shapes ss, behind the rows rs. -/
def lsOf (ss : List Shp) (rs : List Shp) : Nat → List Int := fun j => match ss[j]? with
  | some s => nums s rs
  | none => []
theorem lsOf_some {ss rs : List Shp} {j : Nat} {s : Shp} (h : ss[j]? = some s) : lsOf ss rs j = nums s rs := by unfold lsOf; rw [h]
theorem lsOf_nil (ss : List Shp) (j : Nat) : lsOf ss [] j = [] := by unfold lsOf; split <;> rfl
theorem lsOf_len (ss rs : List Shp) (j : Nat) : (lsOf ss rs j).length ≤ rs.length := by
  unfold lsOf
  split
  · exact idx_length _
  · simp
theorem nums_snoc (s : Shp) (rs : List Shp) (r : Shp) : nums s (rs ++ [r]) = nums s rs ++ (if fitR s r = true then [(rs.length : Int)] else []) := idx_snoc _ _
theorem lsOf_add (ss rs : List Shp) (r : Shp) (j : Nat) : addLs ss r.pred r.cells rs.length (lsOf ss rs) j = lsOf ss (rs ++ [r]) j := by
  unfold addLs
  cases h : ss[j]? with
  | none => simp [lsOf, h]
  | some s =>
    simp only
    rw [lsOf_some h, lsOf_some h, nums_snoc]
    have e : fitF r.pred r.cells s = fitR s r := rfl
    rw [e]
    split
    · rfl
    · rw [List.append_nil]
theorem nums_cut (s : Shp) (rs : List Shp) {m : Nat} (hm : m ≤ rs.length) : nums s rs = nums s (rs.take m) ++ idxFrom (fitR s) m (rs.drop m) := idx_cut _ hm

def Held (wS : World) (G0 : Nat → Nat) (X : Nat) (mv : Value) (ms : List Nat) (ss rs : List Shp) (wr : World) : Prop :=
  ∃ G, MNet wr G X mv ms ss (lsOf ss rs) rs.length ∧ (∀ k, k < wS.heap.size → G k = G0 k) ∧ Turned G0 wS wr

section
variable {wS wr w1 : World} {G0 : Nat → Nat} {X : Nat} {mv : Value} {ms : List Nat} {ss rs : List Shp}

theorem Held.start (h : MNet wS G0 X mv ms ss (fun _ => []) 0) : Held wS G0 X mv ms ss [] wS :=
  ⟨G0, h.congr (fun i _ => (lsOf_nil ss i).symm), fun _ _ => rfl, Turned.refl _ _⟩
theorem Held.up (h : Held wS G0 X mv ms ss rs wr) (hb : Below wr.heap.size wr w1) : Held wS G0 X mv ms ss rs w1 := by
  obtain ⟨G, h1, h2, h3⟩ := h
  exact ⟨G, h1.up hb, h2, h3.trans (Turned.of_below (G := G) hb) h2⟩
theorem Held.turned (h : Held wS G0 X mv ms ss rs wr) : Turned G0 wS wr := by
  obtain ⟨G, h1, h2, h3⟩ := h; exact h3

set_option maxHeartbeats 1600000 in
theorem held_add (h : Held wS G0 X mv ms ss rs wr) (hss : ss.length ≤ 4398046510976) (hok : Okays ss) (hva : ∀ s, s ∈ ss → validB s = true) (hn : rs.length < 17592186044400) (r : Shp) (u : Value) (hu : IntsAt wr wr.heap.size u r.cells)
    (hut : ∀ k, u.ownBlock = some k → k < wS.heap.size ∧ G0 k < 2) (hr : r.cells.length ≤ 35184372088832) (hp : 0 ≤ r.pred) (hng : negB r.cells = false) :
    Calls Try.prog 43 #[.pointer (some ⟨X, 0, none⟩), .int .i64 r.pred, u] wr fun e w' => ∃ v, e = .returned (.tuple #[v, .int .i64 0]) ∧ Held wS G0 X mv ms ss (rs ++ [r]) w' ∧ OwnInts w' wr.heap.size v (took ss r) := by
  obtain ⟨G, h1, h2, h3⟩ := h
  refine (add_yes h1 hss hok hva hn (fun i _ => lsOf_len ss rs i) r.pred r.cells u hu (fun _ k hk => by obtain ⟨e1, e2⟩ := hut k hk; rw [h2 k e1]; exact e2) hr hp hng).mono ?_
  rintro e w' ⟨v, G', rfl, hA⟩
  refine ⟨v, rfl, ⟨G', ?_, fun k hk => (hA.tags k (Nat.lt_of_lt_of_le hk h3.size)).trans (h2 k hk), h3.trans hA.turned h2⟩, ?_⟩
  · rw [List.length_append, List.length_singleton]
    exact hA.net.congr (fun j hj => by rw [if_pos hj]; exact lsOf_add ss rs r j)
  · have := hA.own
    rw [List.take_length] at this
    exact this

theorem held_undo (h : Held wS G0 X mv ms ss rs wr) (hss : ss.length ≤ 4398046510976) (hn : rs.length ≤ 17592186044400) {m : Nat} (hm : m ≤ rs.length) :
    Calls Try.prog 46 #[.pointer (some ⟨X, 0, none⟩), .int .i64 (m : Int)] wr fun e w' => e = .returned (.int .i64 0) ∧ Held wS G0 X mv ms ss (rs.take m) w' := by
  obtain ⟨G, h1, h2, h3⟩ := h
  refine (undo_yes h1 hm hss (lsOf ss (rs.take m)) (fun j => match ss[j]? with | some s => idxFrom (fitR s) m (rs.drop m) | none => []) (fun i hi => ?_) (fun i hi x hx => ?_) (fun i hi x hx => ?_) (fun i _ => Nat.le_trans (lsOf_len ss rs i) hn)).mono ?_
  · have hs : ss[i]? = some ss[i] := List.getElem?_eq_getElem hi
    rw [lsOf_some hs, lsOf_some hs]
    simp only [hs]
    exact nums_cut _ _ hm
  · have hs : ss[i]? = some ss[i] := List.getElem?_eq_getElem hi
    rw [lsOf_some hs] at hx
    have := idx_bounds (f := fitR ss[i]) (rs.take m) x hx
    rw [List.length_take, Nat.min_eq_left hm] at this
    exact this.2
  · have hs : ss[i]? = some ss[i] := List.getElem?_eq_getElem hi
    simp only [hs] at hx
    exact (idxFrom_bounds (f := fitR ss[i]) (rs.drop m) m x hx).1
  · rintro e w' ⟨rfl, hA, hT⟩
    refine ⟨rfl, G, ?_, h2, h3.trans hT h2⟩
    rw [List.length_take, Nat.min_eq_left hm]
    exact hA

theorem held_len (h : Held wS G0 X mv ms ss rs wr) : Calls Try.prog 37 #[.pointer (some ⟨X, 0, none⟩)] wr fun e w' => e = .returned (.int .i64 (rs.length : Int)) ∧ wr = w' := by
  obtain ⟨G, h1, _⟩ := h; exact len_any h1
theorem held_rows (h : Held wS G0 X mv ms ss rs wr) (hn : rs.length ≤ 17592186044400) {m : Nat} {s : Shp} (hs : ss[m]? = some s) :
    Calls Try.prog 48 #[.pointer (some ⟨X, 0, none⟩), .int .i64 (m : Int)] wr (TupIs (nums s rs) 0 wr) := by
  obtain ⟨G, h1, _⟩ := h
  exact rows_yes h1 (List.getElem?_eq_some_iff.1 hs).1 (lsOf_some hs) (Nat.le_trans (idx_length _) hn)
end

end Go.Proofs.Ytlandkindbmbfaa
