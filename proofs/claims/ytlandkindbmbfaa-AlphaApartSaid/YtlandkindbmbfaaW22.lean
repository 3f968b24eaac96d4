/-
  The walk of alpha.New: there is a net just where each shape is valid and stands there once; it is empty. Conditions: the numbers are ints, the lists within the form's own reach.
-/
import Derived.Test.YtlandkindbmbfaaK9
import Derived.Test.YtlandkindbmbfaaW15
namespace Go.Proofs.Ytlandkindbmbfaa
open Go.RowKit Plain

theorem ShpsAt.cut {w : World} {B g off n c : Nat} {ss : List Shp} (h : ShpsAt w B (.slice (some ⟨g, off, none⟩) n c) ss) {i : Nat} (hi : i ≤ ss.length) : ShpsAt w B (.slice (some ⟨g, off, none⟩) i c) (ss.take i) := by
  obtain ⟨a, cap, e, h⟩ := h
  simp only [Value.slice.injEq] at e
  obtain ⟨rfl, rfl, rfl⟩ := e
  refine ⟨_, _, by rw [List.length_take, Nat.min_eq_left hi], ?_⟩
  rcases h with rfl | ⟨g', off', h1, hg, hc⟩
  · exact .inl (by simp)
  · refine .inr ⟨g', off', h1, hg, fun j s hs => hc j s ?_⟩
    rw [List.getElem?_take] at hs
    split at hs
    · exact hs
    · cases hs

/-- append at a step of a region that draws, and where the new slice lies. -/
theorem step_append_at {P : Program} (w : World) {ops : Array Oper} {o : Oper} {a : Act} {K : Act → World → Prop} {Q : Exit → Act → World → Prop} {E : Prop} (hgd : o.guard = none) (s x : Operand) (t : TypeId)
    (ho : o.op = .call { callee := .builtin .append, args := #[s, x], argTypes := #[t, t] })
    (base : Nat) (e : TypeId) (i : TypeInfo) (z : Value) (size bytes : Nat) (ht : P.underlying t = some (.slice e)) (hi : P.info? e = some i) (hz : i.zero = some z)
    (hsize : i.size = size) (hby : i.bytes = bytes) (hzs : z.cells.size = size) (hsz : 0 < size)
    (v : Value) (n : Nat) (xs : List Value) (hs : a.eval s = v) (hown : w.ownsRow base e size v n xs)
    (ad : Addr) (m c : Nat) (news : List Value) (hx : a.eval x = .slice (some ad) m c) (hl : news.length = m * size) (hnews : ∀ j u, news[j]? = some u → w.cell? (ad.add j) = some u) (h1 : ∀ u ∈ news, u.oneCell' = true)
    (h63 : n + m ≤ maxLen) (hbytes : (n + m) * bytes ≤ 140737488355328) (hbase : base ≤ w.heap.size)
    (h : ∀ v' w', w'.ownsRow base e size v' (n + m) (xs ++ news) → w.grownBy w' v.ownBlock → (v' = .slice none 0 0 ↔ v = .slice none 0 0 ∧ m = 0) → (v'.ownBlock = v.ownBlock ∨ v'.ownBlock = some w.heap.size) → K (a.put o.dst v') w') :
    if Region.wanted o (yielded ops a.tmps) = true then Oper.wp P o a w K Q else E := by
  have hw : Region.wanted o (yielded ops a.tmps) = true := by simp [Region.wanted, hgd]
  rw [if_pos hw]
  obtain ⟨v', w', hr, h2, h3, h4, h5⟩ := run_append_own_at (P := P) w base t o.type e i z size bytes ht hi hz hsize hby hzs hsz v n xs hown ad m c news hl hnews h1 h63 hbytes hbase
  unfold Oper.wp execOp
  simp only [ho, resolve, invoke, builtin, Sem.run_bind, Sem.run_pure, Result.andThen_ok, List.map_toArray, List.map_cons, List.map_nil, hs, hx, hr]
  exact h v' w' h2 h3 h4 h5

/-- One memory more, behind its test. -/
theorem NewInv.more {w w4 w5 w6 : World} {X i : Nat} {ss : List Shp} {s : Shp} {mv v' fv : Value} {ms : List Nat} {G : Nat → Nat} {o2 : Obj} (h : NewInv w X ss i mv ms G w4) (hs : ss[i]? = some s) (hb : Below w4.heap.size w4 w5) (hf : FnNew w5 w4.heap.size w5.heap.size s fv)
    (hg : ((w5.alloc (.cells #[fv, .slice none 0 0, .slice none 0 0] 105)).alloc o2).grownBy w6 mv.ownBlock) (hown : w6.ownsRow 0 102 1 v' (i + 1) (ptrs ms ++ [.pointer (some ⟨w5.heap.size, 0, none⟩)]))
    (hat : v'.ownBlock = mv.ownBlock ∨ v'.ownBlock = some ((w5.alloc (.cells #[fv, .slice none 0 0, .slice none 0 0] 105)).alloc o2).heap.size) :
    ∃ G', NewInv w X ss (i + 1) v' (ms ++ [w5.heap.size]) G' (w6.setCell ⟨X, 0, none⟩ v') := by
  have b5 : Below w5.heap.size w5 ((w5.alloc (.cells #[fv, .slice none 0 0, .slice none 0 0] 105)).alloc o2) := (up_alloc _ _).alloc (by simp) _
  refine h.grown hs (hb.trans (b5.mono hb.size)) ?_ (hf.up b5) hg hown hat
  rw [Below.heap_alloc _ _ _ (by simp)]
  exact heap_alloc_new _ _

theorem MNet.atGrown {w w1 : World} {G : Nat → Nat} {X n : Nat} {mv : Value} {ms : List Nat} {ss : List Shp} {ls : Nat → List Int} (h : MNet w G X mv ms ss ls n) (hg : w.grownBy w1 mv.ownBlock) :
    w1.cell? ⟨X, 0, none⟩ = some mv ∧ w1.frozen? ⟨X, 0, none⟩ = false := by
  have e : w1.heap[X]? = some (.cells #[mv, .int .i64 (n : Int)] 101 (0, 0)) :=
    (hg.block X (h.lt (by rw [h.tag]; decide)) (fun e => by have := h.mtag X e.symm; rw [h.tag] at this; cases this)).trans h.net
  exact ⟨by simp only [World.cell?, e]; rfl, by simp only [World.frozen?, e]; rfl⟩
theorem NewInv.rowi {w wr : World} {X i : Nat} {ss : List Shp} {mv : Value} {ms : List Nat} {G : Nat → Nat} (h : NewInv w X ss i mv ms G wr) (hi : i ≤ ss.length) : wr.ownsRow 0 102 1 mv i (ptrs ms) := by
  have := h.net.row
  rw [List.length_take, Nat.min_eq_left hi] at this
  exact this

theorem Try.info102 : (Try.prog.info? 102).map (fun i => (i.zero, i.size, i.bytes)) = some (some (.pointer none), 1, 8) := by kernel_rfl
theorem one_ptr (b : Nat) : ∀ x ∈ [Value.pointer (some ⟨b, 0, none⟩)], x.oneCell' = true := by intro x hx; simp at hx; subst hx; rfl

set_option maxRecDepth 100000 in
set_option maxHeartbeats 3200000 in
theorem new_any (ss : List Shp) (u : Value) (w : World) (hu : ShpsAt w w.heap.size u ss) (hcap : ∀ a n c, u = .slice a n c → n ≤ c) (hss : Okays ss) (hn : ss.length ≤ 4398046510976) :
    Calls Try.prog 35 #[u] w (NewIs ss w) := by
  obtain ⟨i2, pi, p0, p1, p2⟩ := info_parts Try.info102
  obtain ⟨a, c, rfl, ha⟩ := hu.form
  have hc := hcap _ _ _ rfl
  have HV := Lib.hid hu
  have HA := Lib.hid ha
  have HSS := Lib.hid hss
  clear hu ha hcap hss
  have N0 := Lib.hid (NewInv.start w ss)
  go_enter Try.func35, Try.ntmps35
  go_wp2
  generalize w.alloc (.cells #[.slice none 0 0, .int .i64 0] 101) = W0 at N0 ⊢
  go_loopw [11] (fun k wr => ∃ (mv : Value) (ms : List Nat) (i : Nat) (G : Nat → Nat), k = .int .i64 (i : Int) ∧ i ≤ ss.length ∧ Hid (NewInv w w.heap.size ss i mv ms G wr) ∧ Hid (NewTo ss i)) (fun k _ => ss.length - (intOf k).toNat)
  case atStart => exact ⟨_, _, 0, _, rfl, Nat.zero_le _, N0, Lib.hid (NewTo.start ss)⟩
  case round =>
    obtain ⟨mv, ms, i, G, rfl, hil, hI, hT⟩ := hrel
    by_cases h1 : i < ss.length
    · obtain ⟨g, off, rfl⟩ := HA.out (ne_of_lt_len h1)
      obtain ⟨s, hs⟩ : ∃ s, ss[i]? = some s := ⟨ss[i]'h1, List.getElem?_eq_getElem h1⟩
      have hsz := hI.out.below.size
      have HV1 := Lib.hid (HV.out.below hI.out.below)
      obtain ⟨hg, us, c0, c1, hus, hny⟩ := ShpsAt.get HV1.out hs
      have HCUT := Lib.hid (ShpsAt.cut HV1.out (Nat.le_of_lt h1))
      have hok := HSS.out s (List.mem_of_getElem? hs)
      obtain ⟨au, cu, rfl, _⟩ := id hus
      have HU := Lib.hid (hus.mono hsz)
      have HNY := Lib.hid hny
      have HSI := Lib.hid hs
      have hic : (i : Int) ≤ (c : Int) := by omega
      clear hus hny hs
      cases hva : validB s with
      | false =>
        have HR := Lib.hid (newB_invalid HSI.out hva)
        have HVA := Lib.hid hva
        clear hva
        go_wp2_with fail
        generalize hx : wr.alloc (.cells #[.int .i64 s.pred, .slice au s.cells.length cu] 27) = w2
        have hb2 : Below wr.heap.size wr w2 := by rw [← hx]; exact up_alloc _ _
        have SB := Lib.hid (show ShBox w2 wr.heap.size s (.slice au s.cells.length cu) by rw [← hx]; exact ShBox.made HU.out)
        have N2 := Lib.hid (hI.out.below.trans (hb2.mono hsz))
        have k0 := SB.out.1
        have k1 := SB.out.2.1
        clear hx hb2 c0 c1
        first | (go_region_law
          (first
            | (go_simp; go_at_call 17; refine (valid_any s _ _ (by exact SB.out.2.2.1) hok.1.ints hok.1.len).mono ?_; rintro e w3 ⟨rfl, hb3'⟩; rw [HVA.out]; have hb3 : Below w2.heap.size w2 w3 := ⟨hb3'.os, hb3'.tape, hb3'.output, hb3'.size, hb3'.block⟩; clear hb3'; have S3 := Lib.hid (SB.out.below hb3); have m0 := S3.out.1; have m1 := S3.out.2.1))) | fail
        all_goals
          have N3 := Lib.hid (N2.out.trans (hb3.mono N2.out.size))
          go_wp2
          go_ret2
          exact .inl ⟨HR.out, rfl, N3.out⟩
      | true =>
        have HVA := Lib.hid hva
        clear hva
        go_wp2_with fail
        generalize hx : wr.alloc (.cells #[.int .i64 s.pred, .slice au s.cells.length cu] 27) = w2
        have hb2 : Below wr.heap.size wr w2 := by rw [← hx]; exact up_alloc _ _
        have SB := Lib.hid (show ShBox w2 wr.heap.size s (.slice au s.cells.length cu) by rw [← hx]; exact ShBox.made HU.out)
        have N2 := Lib.hid (hI.out.below.trans (hb2.mono hsz))
        have U2 := Lib.hid hb2
        have h2z := hb2.size
        have hil2 : (ss.take i).length ≤ 4398046510976 := Nat.le_trans (List.length_take_le _ _) (by omega)
        have HST : Hid (∀ w3 : World, Below w2.heap.size w2 w3 → Calls Try.prog 55 #[.slice (some ⟨g, off, none⟩) i c, .agg #[.int .i64 s.pred, .slice au s.cells.length cu]] w3 (BoolIs w3 (standsB (ss.take i) s))) :=
          fun w3 h3 => stands_any (ss.take i) _ s _ w3 (((HCUT.out.below (hb2.mono hsz)).below (h3.mono (by omega))).mono (by have := h3.size; omega)) (fun t ht => HSS.out t (List.mem_of_mem_take ht)) hil2 (SB.out.below h3).2.2.1 hok.1
        have k0 := SB.out.1
        have k1 := SB.out.2.1
        clear hx hb2 c0 c1
        go_region_held3 (fun w' => w'.cell? ⟨wr.heap.size, 0, none⟩ = some (.int .i64 s.pred) ∧ w'.cell? ⟨wr.heap.size, 1, none⟩ = some (.slice au s.cells.length cu))
          (first | exact ⟨k0, k1⟩ | exact ⟨m0, m1⟩ | exact ⟨q0, q1⟩)
          (first
            | (go_at_call 17; refine (valid_any s _ _ (by exact SB.out.2.2.1) hok.1.ints hok.1.len).mono ?_; rintro e w3 ⟨rfl, hb3'⟩; rw [HVA.out]; have hb3 : Below w2.heap.size w2 w3 := ⟨hb3'.os, hb3'.tape, hb3'.output, hb3'.size, hb3'.block⟩; clear hb3'; have S3 := Lib.hid (SB.out.below hb3); have U3 := Lib.hid (U2.out.trans (hb3.mono U2.out.size)); have m0 := S3.out.1; have m1 := S3.out.2.1)
            | (go_at_call 55; refine (HST.out w3 hb3).mono ?_; rintro e w4 ⟨rfl, hb4'⟩; have hb4 : Below w3.heap.size w3 w4 := ⟨hb4'.os, hb4'.tape, hb4'.output, hb4'.size, hb4'.block⟩; clear hb4'; have S4 := Lib.hid (S3.out.below hb4); have q0 := S4.out.1; have q1 := S4.out.2.1))
        have U4 := Lib.hid (U3.out.trans (hb4.mono U3.out.size))
        cases hst : standsB (ss.take i) s with
        | true =>
          have HR := Lib.hid (newB_twice HSI.out hst)
          have N4 := Lib.hid (hI.out.below.trans (U4.out.mono hsz))
          clear hst
          go_wp2
          go_ret2
          exact .inl ⟨HR.out, rfl, N4.out⟩
        | false =>
          have HT2 := Lib.hid (hT.out.round HSI.out HVA.out hst)
          clear hst
          go_wp2_with fail
          have NI4 := Lib.hid (hI.out.up U4.out)
          obtain ⟨am, cm, hmv, _⟩ := NI4.out.net.form
          rw [List.length_take, Nat.min_eq_left (Nat.le_of_lt h1)] at hmv
          subst hmv
          have x0 := NI4.out.net.c0
          have q0 := S4.out.1
          have q1 := S4.out.2.1
          clear k0 k1
          go_region_law
            (first
              | (go_simp; go_at_call 53; refine (test_any s _ _ (by exact S4.out.2.2.1) HNY.out hok.1 hok.2).mono ?_; rintro e w5 HTI; obtain ⟨fv, rfl, hfn, hb5'⟩ := FnNew.of_test HTI HVA.out; obtain ⟨bs, bc, cv, q, rfl, hrest⟩ := hfn; have HFN : Hid (FnNew w5 w4.heap.size w5.heap.size s _) := ⟨bs, bc, cv, q, rfl, hrest⟩; have hb5 : Below w4.heap.size w4 w5 := ⟨hb5'.os, hb5'.tape, hb5'.output, hb5'.size, hb5'.block⟩; clear hb5' hrest HTI; have NI5 := Lib.hid (NI4.out.up hb5); have x1 := NI5.out.net.c0; have x2 := (NI5.out.net.alloc (.cells #[.func (.func 64) #[] #[.pointer (some ⟨bs, 0, none⟩), .pointer (some ⟨bc, 0, none⟩)], .slice none 0 0, .slice none 0 0] 105)).c0; have x3 := ((NI5.out.net.alloc (.cells #[.func (.func 64) #[] #[.pointer (some ⟨bs, 0, none⟩), .pointer (some ⟨bc, 0, none⟩)], .slice none 0 0, .slice none 0 0] 105)).alloc (.cells #[.pointer (some ⟨w5.heap.size, 0, none⟩)] 102)).c0)
              | (refine step_append_at _ (by rfl) _ _ 99 (by rfl) 0 102 i2 (.pointer none) 1 8 Try.underlying99 pi p0 p1 p2 rfl (by decide) (.slice am i cm) i (ptrs ms) (by rfl) (by exact ((NI5.out.alloc (.cells #[.func (.func 64) #[] #[.pointer (some ⟨bs, 0, none⟩), .pointer (some ⟨bc, 0, none⟩)], .slice none 0 0, .slice none 0 0] 105)).alloc (.cells #[.pointer (some ⟨w5.heap.size, 0, none⟩)] 102)).rowi (Nat.le_of_lt h1)) ⟨w5.heap.size + 1, 0, none⟩ 1 1 [.pointer (some ⟨w5.heap.size, 0, none⟩)] (by rfl) (by rfl) (by exact cell_one_at _ _ (by simp)) (one_ptr _) (by unfold maxLen; omega) (by omega) (by simp) ?_; intro v' w6 hown' hgrow' hnl hat; obtain ⟨g', c', rfl⟩ := Joins.ownsRow_form hown' (by omega); have hgrow : ((w5.alloc (.cells #[.func (.func 64) #[] #[.pointer (some ⟨bs, 0, none⟩), .pointer (some ⟨bc, 0, none⟩)], .slice none 0 0, .slice none 0 0] 105)).alloc (.cells #[.pointer (some ⟨w5.heap.size, 0, none⟩)] 102)).grownBy w6 (Value.slice am i cm).ownBlock := ⟨hgrow'.os, hgrow'.tape, hgrow'.output, hgrow'.size, hgrow'.block⟩; have HX6 := ((NI5.out.alloc (.cells #[.func (.func 64) #[] #[.pointer (some ⟨bs, 0, none⟩), .pointer (some ⟨bc, 0, none⟩)], .slice none 0 0, .slice none 0 0] 105)).alloc (.cells #[.pointer (some ⟨w5.heap.size, 0, none⟩)] 102)).net.atGrown hgrow; have x6 := HX6.1; have f6 := HX6.2; have HM := Lib.hid (NI4.out.more HSI.out hb5 HFN.out hgrow hown' hat)))
          all_goals
            obtain ⟨G', HN⟩ := HM.out
            have HN' := Lib.hid HN
            clear HN
            go_wp2
            go_roundw
            case rel => exact ⟨_, _, i + 1, G', by go_num, by omega, HN', HT2⟩
            case measure => simp only [intOf]; omega
    · have e : i = ss.length := by omega
      subst e
      have HR := Lib.hid hT.out.stop
      have N1 := hI.out.net
      rw [List.take_length] at N1
      have HN := Lib.hid N1
      have HB := Lib.hid hI.out.below
      have HO := Lib.hid hI.out.old
      clear N1
      go_wp2
      go_ret2
      exact .inr ⟨HR.out, _, _, _, _, rfl, HN.out, HB.out, HO.out⟩

end Go.Proofs.Ytlandkindbmbfaa
