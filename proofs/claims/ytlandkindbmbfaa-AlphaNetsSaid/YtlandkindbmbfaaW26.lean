/-
  The walk of edictref10.New: there is a net just where each shape is valid and stands there once; it has its own copies. Conditions: the numbers are ints, the lists within the form's own reach.
-/
import Derived.Test.YtlandkindbmbfaaW25
import Derived.Test.YtlandkindbmbfaaW17
namespace Go.Proofs.Ytlandkindbmbfaa
open Go.RowKit Plain
attribute [local go_sem ↓] Go.wp_at_zero Go.wp_at_succ

theorem OwnShps.keep {w w' : World} {B : Nat} {v : Value} {ss : List Shp} (h : OwnShps w B v ss) (hb : ∀ k, B ≤ k → k < w.heap.size → w'.heap[k]? = w.heap[k]?) : OwnShps w' B v ss := by
  obtain ⟨vs, hl, ho, hi⟩ := h
  exact ⟨vs, hl, row_keep ho (fun k hk => hb k (World.ownsRow.lt ho k hk).1 (World.ownsRow.lt ho k hk).2), fun j s u h1 h2 => row_keep (hi j s u h1 h2) (fun k hk => hb k (World.ownsRow.lt (hi j s u h1 h2) k hk).1 (World.ownsRow.lt (hi j s u h1 h2) k hk).2)⟩

/-- The document's net in the making. -/
structure RMake (wb : World) (X2 : Nat) (ss : List Shp) (i : Nat) (sv : Value) (wr : World) : Prop where
  box : wr.heap[X2]? = some (.cells #[sv, .slice none 0 0] 98 (0, 0))
  own : OwnShps wr (X2 + 1) sv (ss.take i)
  below : Below wb.heap.size wb wr
  ge : wb.heap.size ≤ X2
section
variable {wb wr w1 w2 : World} {X2 i : Nat} {ss : List Shp} {s : Shp} {sv sv' u : Value}
theorem RMake.start (w : World) (ss : List Shp) : RMake w w.heap.size ss 0 (.slice none 0 0) (w.alloc (.cells #[.slice none 0 0, .slice none 0 0] 98)) :=
  ⟨heap_alloc_new _ _, OwnShps.nil _ _, up_alloc _ _, Nat.le_refl _⟩
theorem RMake.lt (h : RMake wb X2 ss i sv wr) : X2 < wr.heap.size := lt_of_block h.box
theorem RMake.up (h : RMake wb X2 ss i sv wr) (hb : Below wr.heap.size wr w1) : RMake wb X2 ss i sv w1 :=
  ⟨(hb.block X2 h.lt).trans h.box, h.own.up hb, h.below.trans (hb.mono h.below.size), h.ge⟩
theorem RMake.c0 (h : RMake wb X2 ss i sv wr) : wr.cell? ⟨X2, 0, none⟩ = some sv := by have := h.box; simp only [World.cell?, this]; rfl
theorem RMake.atGrown (h : RMake wb X2 ss i sv w1) (hg : w1.grownBy w2 sv.ownBlock) : w2.cell? ⟨X2, 0, none⟩ = some sv ∧ w2.frozen? ⟨X2, 0, none⟩ = false := by
  obtain ⟨vs, hl, ho, _⟩ := h.own
  have e : w2.heap[X2]? = some (.cells #[sv, .slice none 0 0] 98 (0, 0)) := (hg.block X2 h.lt (fun e => by have := (World.ownsRow.lt ho X2 e.symm).1; omega)).trans h.box
  exact ⟨by simp only [World.cell?, e]; rfl, by simp only [World.frozen?, e]; rfl⟩
theorem RMake.gone (h : RMake wb X2 ss i sv wr) {n : Nat} {xs : List Value} (ho : wr.ownsRow (X2 + 1) 27 2 sv n xs) (hb : Below wr.heap.size wr w1) (hg : w1.grownBy w2 sv.ownBlock) : Below wb.heap.size wb w2 :=
  Below.grown (h.below.trans (hb.mono h.below.size)) hg (Nat.le_trans h.below.size hb.size) (fun k hk => by have := (World.ownsRow.lt ho k hk).1; have := h.ge; omega)
/-- One shape more. -/
theorem RMake.push (h : RMake wb X2 ss i sv wr) (hs : ss[i]? = some s) {vs : List Value} (hl : vs.length = i) (ho : wr.ownsRow (X2 + 1) 27 2 sv i (flat (ss.take i) vs))
    (hi : ∀ (j : Nat) (t : Shp) (x : Value), (ss.take i)[j]? = some t → vs[j]? = some x → OwnInts wr (X2 + 1) x t.cells) (hb : Below wr.heap.size wr w1) (hu : OwnInts w1 wr.heap.size u s.cells) (hg : w1.grownBy w2 sv.ownBlock)
    (hown : w2.ownsRow (X2 + 1) 27 2 sv' (i + 1) (flat (ss.take i) vs ++ [.int .i64 s.pred, u])) : RMake wb X2 ss (i + 1) sv' (w2.setCell ⟨X2, 0, none⟩ sv') := by
  have hx := h.lt
  have hti : (ss.take i).length = i := by have := (List.getElem?_eq_some_iff.1 hs).1; rw [List.length_take]; omega
  have hrlt : ∀ k, sv.ownBlock = some k → X2 + 1 ≤ k := fun k hk => (World.ownsRow.lt ho k hk).1
  have hbox : w2.heap[X2]? = some (.cells #[sv, .slice none 0 0] 98 (0, 0)) := (hg.block X2 (Nat.lt_of_lt_of_le hx hb.size) (fun e => by have := hrlt X2 e.symm; omega)).trans ((hb.block X2 hx).trans h.box)
  refine ⟨by rw [block_setCell hbox]; rfl, ?_, ?_, h.ge⟩
  · have hsn := OwnShps.snoc (v := sv) (s := s) (vs := vs) (ss := ss.take i) (w := w1) (B := X2 + 1) (by rw [hti]; exact hl) (by rw [hti]; exact row_keep ho (fun k hk => hb.block k (World.ownsRow.lt ho k hk).2))
      (fun j t x e1 e2 => row_keep (hi j t x e1 e2) (fun k hk => hb.block k (World.ownsRow.lt (hi j t x e1 e2) k hk).2)) (hu.mono (by omega)) (by rw [hti]; exact hown) hg
    rw [take_one hs]
    exact hsn.keep (fun k hk1 hk2 => Below.heap_setCell _ _ _ _ (fun e => by simp only at e; omega))
  · refine Below.setCell (Below.grown (h.below.trans (hb.mono h.below.size)) hg (Nat.le_trans h.below.size hb.size) (fun k hk => ?_)) h.ge _
    have := hrlt k hk
    have := h.ge
    omega
end

/-- append of a list of numbers, nil or not, at a step of a region that draws. -/
theorem step_append_ints {P : Program} (w : World) {ops : Array Oper} {o : Oper} {a : Act} {K : Act → World → Prop} {Q : Exit → Act → World → Prop} {E : Prop} (hgd : o.guard = none) (s x : Operand) (t : TypeId)
    (ho : o.op = .call { callee := .builtin .append, args := #[s, x], argTypes := #[t, t] })
    (base : Nat) (i : TypeInfo) (ht : P.underlying t = some (.slice 3)) (hi : P.info? 3 = some i) (hz : i.zero = some (.int .i64 0)) (hsize : i.size = 1) (hby : i.bytes = 8)
    (v : Value) (n : Nat) (xs : List Value) (hs : a.eval s = v) (hown : w.ownsRow base 3 1 v n xs) (u : Value) (l : List Int) (hx : a.eval x = u) (hu : IntsAt w w.heap.size u l) (hny : Nilly u) (hv : v ≠ .slice none 0 0)
    (h63 : n + l.length ≤ 17592186044416) (hbase : base ≤ w.heap.size)
    (h : ∀ v' w', w'.ownsRow base 3 1 v' (n + l.length) (xs ++ lits l) → w.grownBy w' v.ownBlock → v' ≠ .slice none 0 0 → K (a.put o.dst v') w') :
    if Region.wanted o (yielded ops a.tmps) = true then Oper.wp P o a w K Q else E := by
  obtain ⟨au, cu, rfl, _⟩ := id hu
  rcases au with _ | ad
  · obtain ⟨e1, e2⟩ := hny _ _ rfl
    have hl : l = [] := List.length_eq_zero_iff.1 e1
    subst hl e2
    exact step_append_own_none w hgd s x t ho base 3 i 1 ht hi v n xs hs hown hx (h v w (by simpa [lits] using hown) ⟨rfl, rfl, rfl, Nat.le_refl _, fun _ _ _ => rfl⟩ hv)
  · exact step_append_own w hgd s x t ho base 3 i (.int .i64 0) 1 8 ht hi hz hsize hby rfl (by decide) v n xs hs hown ad l.length cu (lits l) hx (by rw [lits_length, Nat.mul_one]) hu.news (lits_one _) (by unfold maxLen; omega) (by omega) hbase
      (fun v' w' h1 h2 h3 => h v' w' h1 h2 (fun e => hv (h3.1 e).1))

def RNewIs (ss : List Shp) (w : World) (e : Ending) (w' : World) : Prop :=
  (newB ss = false ∧ e = .returned (.tuple #[.pointer none, .int .i64 2]) ∧ Below w.heap.size w w') ∨
  (newB ss = true ∧ ∃ X2 sv, e = .returned (.tuple #[.pointer (some ⟨X2, 0, none⟩), .int .i64 0]) ∧ w.heap.size ≤ X2 ∧ w'.heap[X2]? = some (.cells #[sv, .slice none 0 0] 98 (0, 0)) ∧ OwnShps w' (X2 + 1) sv ss ∧ Below w.heap.size w w')

set_option maxRecDepth 100000 in
set_option maxHeartbeats 6400000 in
theorem rnew_any (ss : List Shp) (u : Value) (w : World) (hu : ShpsAt w w.heap.size u ss) (hcap : ∀ a n c, u = .slice a n c → n ≤ c) (hss : Okays ss) (hn : ss.length ≤ 4398046510976) :
    Calls Try.prog 34 #[u] w (RNewIs ss w) := by
  obtain ⟨i3, qi, q0, q1, q2⟩ := info_parts Try.info3
  obtain ⟨i27, pi, p0, p1, p2⟩ := info_parts Try.info27
  obtain ⟨a, c, rfl, ha⟩ := hu.form
  have hc := hcap _ _ _ rfl
  have HV := Lib.hid hu
  have HA := Lib.hid ha
  have HSS := Lib.hid hss
  clear hu ha hcap hss
  go_enter Try.func34, Try.ntmps34
  go_wp2
  go_loopw [4] (fun k wr => ∃ i : Nat, k = .int .i64 (i : Int) ∧ i ≤ ss.length ∧ Hid (Below w.heap.size w wr) ∧ Hid (NewTo ss i)) (fun k _ => ss.length - (intOf k).toNat)
  case atStart => exact ⟨0, rfl, Nat.zero_le _, Lib.hid (Below.refl _ _), Lib.hid (NewTo.start ss)⟩
  case round =>
    obtain ⟨i, rfl, hil, NX, hT⟩ := hrel
    have hsz := NX.out.size
    by_cases h1 : i < ss.length
    · obtain ⟨g, off, rfl⟩ := HA.out (ne_of_lt_len h1)
      obtain ⟨s, hs⟩ : ∃ s, ss[i]? = some s := ⟨ss[i]'h1, List.getElem?_eq_getElem h1⟩
      have HV1 := Lib.hid (HV.out.below NX.out)
      obtain ⟨au, cu, ex⟩ := ShpsAt.el (j := i) HV1.out hsz hs
      have EX := Lib.hid ex
      have HCUT := Lib.hid (ShpsAt.cut HV1.out (Nat.le_of_lt h1))
      have hok := HSS.out s (List.mem_of_getElem? hs)
      have HSI := Lib.hid hs
      have hic : (i : Int) ≤ (c : Int) := by omega
      have i0 : (0 : Int) ≤ (i : Int) := Int.natCast_nonneg _
      have i1 : (i : Int) < (ss.length : Int) := by omega
      have k0 := EX.out.c0
      have k1 := EX.out.c1
      clear hs ex
      cases hva : validB s with
      | false =>
        have HR := Lib.hid (newB_invalid HSI.out hva)
        have HVA := Lib.hid hva
        clear hva
        go_wp2_with fail
        refine wp_region_any (by kernel_rfl) ?_
        change wpAny _ _ _ _ _ _ _ (World.drew _)
        refine wpAny_take (i := 0) (v := ?_) rfl (by kernel_rfl) (by kernel_rfl) (by kernel_rfl) (fun _ _ _ h => h) (Or.inl ⟨by kernel_rfl, ?_⟩) ?_
        rotate_left
        · intro w; go_simp; try with_reducible rfl
        change wpAny _ _ _ _ _ _ (Act.put _ (some 13) _) _
        refine wpAny_take (i := 1) (v := ?_) rfl (by kernel_rfl) (by kernel_rfl) (by kernel_rfl) (fun _ _ _ h => h) (Or.inl ⟨by kernel_rfl, ?_⟩) ?_
        rotate_left
        · intro w; go_simp; try with_reducible rfl
        change wpAny _ _ _ _ _ _ (Act.put _ (some 14) _) _
        refine wpAny_take (i := 2) (v := ?_) rfl (by kernel_rfl) (by kernel_rfl) (by kernel_rfl) (fun _ _ _ h => h) (Or.inl ⟨by kernel_rfl, ?_⟩) ?_
        rotate_left
        · intro w; go_simp; try with_reducible rfl
        change wpAny _ _ _ _ _ _ (Act.put _ (some 15) _) _
        refine wpAny_ready (rs := [3]) (by kernel_rfl) (by simp) ?_
        refine AllReady.cons rfl (fun K hK => ?_) AllReady.nil
        go_simp
        refine hK _ _ ?_
        clear hK K
        refine wpAny_ready (rs := [4]) (by kernel_rfl) (by simp) ?_
        refine AllReady.cons rfl (fun K hK => ?_) AllReady.nil
        go_simp
        go_at_call 18
        refine (refValid_any s _ _ (by exact EX.out.ints) hok.1.ints hok.1.len).mono ?_
        rintro e w3 ⟨rfl, hb3'⟩
        rw [HVA.out]
        have hb3 : Below wr.heap.size wr w3 := ⟨hb3'.os, hb3'.tape, hb3'.output, hb3'.size, hb3'.block⟩
        clear hb3'
        refine hK _ _ ?_
        clear hK K
        refine wpAny_take (i := 5) (v := ?_) rfl (by kernel_rfl) (by kernel_rfl) (by kernel_rfl) (fun _ _ _ h => h) (Or.inl ⟨by kernel_rfl, ?_⟩) ?_
        rotate_left
        · intro w; go_simp; try with_reducible rfl
        change wpAny _ _ _ _ _ _ (Act.put _ (some 18) _) _
        refine wpAny_take (i := 6) (v := ?_) rfl (by kernel_rfl) (by kernel_rfl) (by kernel_rfl) (fun _ _ _ h => h) (Or.inl ⟨by kernel_rfl, ?_⟩) ?_
        rotate_left
        · intro w; go_simp; try with_reducible rfl
        change wpAny _ _ _ _ _ _ (Act.put _ (some 19) _) _
        refine wpAny_take (i := 7) (v := undef) rfl (by kernel_rfl) (by kernel_rfl) (by kernel_rfl) (fun _ _ _ h => h) (Or.inr ⟨by kernel_rfl, rfl⟩) ?_
        change wpAny _ _ _ _ _ _ (Act.put _ (some 20) undef) _
        refine wpAny_take (i := 8) (v := undef) rfl (by kernel_rfl) (by kernel_rfl) (by kernel_rfl) (fun _ _ _ h => h) (Or.inr ⟨by kernel_rfl, rfl⟩) ?_
        change wpAny _ _ _ _ _ _ (Act.put _ (some 21) undef) _
        refine wpAny_take (i := 9) (v := undef) rfl (by kernel_rfl) (by kernel_rfl) (by kernel_rfl) (fun _ _ _ h => h) (Or.inr ⟨by kernel_rfl, rfl⟩) ?_
        change wpAny _ _ _ _ _ _ (Act.put _ (some 22) undef) _
        refine wpAny_take (i := 10) (v := undef) rfl (by kernel_rfl) (by kernel_rfl) (by kernel_rfl) (fun _ _ _ h => h) (Or.inr ⟨by kernel_rfl, rfl⟩) ?_
        change wpAny _ _ _ _ _ _ (Act.put _ (some 23) undef) _
        refine wpAny_take (i := 11) (v := undef) rfl (by kernel_rfl) (by kernel_rfl) (by kernel_rfl) (fun _ _ _ h => h) (Or.inr ⟨by kernel_rfl, rfl⟩) ?_
        change wpAny _ _ _ _ _ _ (Act.put _ (some 24) undef) _
        refine wpAny_take (i := 12) (v := undef) rfl (by kernel_rfl) (by kernel_rfl) (by kernel_rfl) (fun _ _ _ h => h) (Or.inr ⟨by kernel_rfl, rfl⟩) ?_
        change wpAny _ _ _ _ _ _ (Act.put _ (some 25) undef) _
        refine wpAny_take (i := 13) (v := undef) rfl (by kernel_rfl) (by kernel_rfl) (by kernel_rfl) (fun _ _ _ h => h) (Or.inr ⟨by kernel_rfl, rfl⟩) ?_
        change wpAny _ _ _ _ _ _ (Act.put _ (some 26) undef) _
        refine wpAny_take (i := 14) (v := undef) rfl (by kernel_rfl) (by kernel_rfl) (by kernel_rfl) (fun _ _ _ h => h) (Or.inr ⟨by kernel_rfl, rfl⟩) ?_
        change wpAny _ _ _ _ _ _ (Act.put _ (some 27) undef) _
        refine wpAny_take (i := 15) (v := ?_) rfl (by kernel_rfl) (by kernel_rfl) (by kernel_rfl) (fun _ _ _ h => h) (Or.inl ⟨by kernel_rfl, ?_⟩) ?_
        rotate_left
        · intro w; go_simp; try with_reducible rfl
        change wpAny _ _ _ _ _ _ (Act.put _ (some 28) _) _
        refine wpAny_done (by kernel_rfl) ?_ _
        go_simp
        have N3 := Lib.hid (NX.out.trans (hb3.mono hsz))
        go_wp2
        go_ret2
        exact .inl ⟨HR.out, rfl, N3.out⟩
      | true =>
        have HVA := Lib.hid hva
        clear hva
        have hil2 : (ss.take i).length ≤ 4398046510976 := Nat.le_trans (List.length_take_le _ _) (by omega)
        have HST : Hid (∀ w3 : World, Below wr.heap.size wr w3 → Calls Try.prog 54 #[.slice (some ⟨g, off, none⟩) i c, .agg #[.int .i64 s.pred, .slice au s.cells.length cu]] w3 (BoolIs w3 (standsB (ss.take i) s))) :=
          fun w3 h3 => has_any (ss.take i) _ s _ w3 ((HCUT.out.below (h3.mono hsz)).mono (by have := h3.size; omega)) (fun t ht => HSS.out t (List.mem_of_mem_take ht)) hil2 ((EX.out.below h3).ints) hok.1
        go_wp2_with fail
        go_region_held3 (fun w' => w'.cell? ⟨g, off + i * 2, none⟩ = some (.int .i64 s.pred) ∧ w'.cell? ⟨g, off + i * 2 + 1, none⟩ = some (.slice au s.cells.length cu))
          (first | exact ⟨k0, k1⟩ | exact ⟨m0, m1⟩ | exact ⟨q0, q1⟩)
          (first
            | (go_at_call 18; refine (refValid_any s _ _ (by exact EX.out.ints) hok.1.ints hok.1.len).mono ?_; rintro e w3 ⟨rfl, hb3'⟩; rw [HVA.out]; have hb3 : Below wr.heap.size wr w3 := ⟨hb3'.os, hb3'.tape, hb3'.output, hb3'.size, hb3'.block⟩; clear hb3'; have S3 := Lib.hid (EX.out.below hb3); have m0 := S3.out.c0; have m1 := S3.out.c1)
            | (go_at_call 54; refine (HST.out w3 hb3).mono ?_; rintro e w4 ⟨rfl, hb4'⟩; have hb4 : Below w3.heap.size w3 w4 := ⟨hb4'.os, hb4'.tape, hb4'.output, hb4'.size, hb4'.block⟩; clear hb4'; have S4 := Lib.hid (S3.out.below hb4); have q0 := S4.out.c0; have q1 := S4.out.c1))
        have N4 := Lib.hid (NX.out.trans ((hb3.trans (hb4.mono hb3.size)).mono hsz))
        clear k0 k1 m0 m1
        cases hst : standsB (ss.take i) s with
        | true =>
          have HR := Lib.hid (newB_twice HSI.out hst)
          clear hst
          go_wp2
          go_ret2
          exact .inl ⟨HR.out, rfl, N4.out⟩
        | false =>
          have HT2 := Lib.hid (hT.out.round HSI.out HVA.out hst)
          clear hst
          go_wp2
          go_roundw
          case rel => exact ⟨i + 1, by go_num, by omega, N4, HT2⟩
          case measure => simp only [intOf]; omega
    · have e : i = ss.length := by omega
      have HR : Hid (newB ss = true) := by have := hT.out; rw [e] at this; exact this.stop
      have R0 := Lib.hid (RMake.start wr ss)
      clear e
      go_wp2
      obtain ⟨wz, hwz⟩ : ∃ wz, wz = wr := ⟨_, rfl⟩
      rw [← hwz] at R0 NX hsz ⊢
      clear hwz
      generalize wz.alloc (.cells #[.slice none 0 0, .slice none 0 0] 98) = W0 at R0 ⊢
      go_loopw [6] (fun k wr => ∃ (i : Nat) (sv : Value), k = .int .i64 (i : Int) ∧ i ≤ ss.length ∧ Hid (RMake wz wz.heap.size ss i sv wr)) (fun k _ => ss.length - (intOf k).toNat)
      case atStart => exact ⟨0, _, rfl, Nat.zero_le _, R0⟩
      case round =>
        obtain ⟨i, sv, rfl, hil, HB⟩ := hrel
        have hwz := HB.out.below.size
        have hX := HB.out.lt
        by_cases h1 : i < ss.length
        · obtain ⟨g, off, rfl⟩ := HA.out (ne_of_lt_len h1)
          obtain ⟨s, hs⟩ : ∃ s, ss[i]? = some s := ⟨ss[i]'h1, List.getElem?_eq_getElem h1⟩
          obtain ⟨au, cu, ez⟩ := ShpsAt.el (j := i) (HV.out.below NX.out) hsz hs
          have EZ := Lib.hid ez
          have EX := Lib.hid (ez.below HB.out.below)
          have hok := HSS.out s (List.mem_of_getElem? hs)
          have hsl := hok.2
          have HSI := Lib.hid hs
          obtain ⟨vs, hvl, ho, hoi⟩ := HB.out.own
          have hti : (ss.take i).length = i := by rw [List.length_take]; omega
          rw [hti] at hvl ho
          obtain ⟨aV, cV, hsv⟩ : ∃ aV cV, sv = .slice aV i cV := by
            rcases Joins.ownsRow_forms ho with ⟨h1, h0⟩ | ⟨g, cap, h1⟩
            · exact ⟨_, _, by rw [h1, h0]⟩
            · exact ⟨_, _, h1⟩
          subst hsv
          have HO := Lib.hid ho
          have HI := Lib.hid hoi
          have i0 : (0 : Int) ≤ (i : Int) := Int.natCast_nonneg _
          have i1 : (i : Int) < (ss.length : Int) := by omega
          have x0 := HB.out.c0
          have k0 := EX.out.c0
          have k1 := EX.out.c1
          have EA := Lib.hid (EX.out.below (up_alloc wr (.cells #[] 3)))
          have BA := Lib.hid (HB.out.up (up_alloc wr (.cells #[] 3)))
          have xa := BA.out.c0
          have ka0 := EA.out.c0
          have ka1 := EA.out.c1
          clear hs ez ho hoi
          go_wp2_with fail
          go_region_law
            (first
              | (refine step_append_ints _ (by rfl) _ _ 25 (by rfl) wr.heap.size i3 Try.underlying25 qi q0 q1 q2 (.slice (some ⟨wr.heap.size, 0, none⟩) 0 0) 0 [] (by rfl) (by exact World.ownsRow_made wr #[] 0 (Nat.le_refl _) (by decide) rfl) (.slice au s.cells.length cu) s.cells (by rfl) (by exact EA.out.ints) EA.out.nil (by simp) (by omega) (by simp) ?_; intro u1 w1 hown1 hgrow1 hnil1; obtain ⟨gu, cu1, rfl⟩ := form_of hown1 hnil1; simp only [Nat.zero_add, List.nil_append] at hown1 ⊢; have hgrow1' : (wr.alloc (.cells #[] 3)).grownBy w1 (some wr.heap.size) := ⟨hgrow1.os, hgrow1.tape, hgrow1.output, hgrow1.size, hgrow1.block⟩; have hb1 : Below wr.heap.size wr w1 := (up_alloc wr (.cells #[] 3)).grown hgrow1' (by simp) (fun k hk => by simp at hk; omega); have hz1 := hb1.size; have B1 := Lib.hid (HB.out.up hb1); have x1 := B1.out.c0; have E1 := Lib.hid (EX.out.below hb1); have d0 := E1.out.c0; have d1 := E1.out.c1; have HU1 : Hid (OwnInts w1 wr.heap.size (.slice (some ⟨gu, 0, none⟩) s.cells.length cu1) s.cells) := hown1; have hone := one_shape s.pred HU1.out; have xm := (B1.out.up (up_alloc w1 (.cells #[.int .i64 s.pred, .slice (some ⟨gu, 0, none⟩) s.cells.length cu1] 27))).c0)
              | (refine step_append_own _ (by rfl) _ _ 22 (by rfl) (wz.heap.size + 1) 27 i27 (.agg #[.int .i64 0, .slice none 0 0]) 2 32 Try.underlying22 pi p0 p1 p2 rfl (by decide) (.slice aV i cV) i (flat (ss.take i) vs) (by rfl) (by exact World.ownsRow.alloc (row_keep HO.out (fun k hk => hb1.block k (World.ownsRow.lt HO.out k hk).2)) (.cells #[.int .i64 s.pred, .slice (some ⟨gu, 0, none⟩) s.cells.length cu1] 27)) ⟨w1.heap.size, 0, none⟩ 1 1 [.int .i64 s.pred, .slice (some ⟨gu, 0, none⟩) s.cells.length cu1] (by rfl) (by rfl) (World.news_of_block (cs := #[.int .i64 s.pred, .slice (some ⟨gu, 0, none⟩) s.cells.length cu1]) (t := 27) (fr := (0, 0)) (heap_alloc_new w1 _)) hone (by unfold maxLen; omega) (by omega) (by simp; omega) ?_; intro v' w2 hown2 hgrow2 hnl2; obtain ⟨g', c', rfl⟩ := Joins.ownsRow_form hown2 (by omega); have hgrow : (w1.alloc (.cells #[.int .i64 s.pred, .slice (some ⟨gu, 0, none⟩) s.cells.length cu1] 27)).grownBy w2 (Value.slice aV i cV).ownBlock := ⟨hgrow2.os, hgrow2.tape, hgrow2.output, hgrow2.size, hgrow2.block⟩; have HX6 := (B1.out.up (up_alloc w1 (.cells #[.int .i64 s.pred, .slice (some ⟨gu, 0, none⟩) s.cells.length cu1] 27))).atGrown hgrow; have x6 := HX6.1; have f6 := HX6.2; have HP := Lib.hid (HB.out.push HSI.out hvl HO.out HI.out (hb1.alloc hz1 (.cells #[.int .i64 s.pred, .slice (some ⟨gu, 0, none⟩) s.cells.length cu1] 27)) (World.ownsRow.alloc HU1.out _) hgrow hown2)))
          all_goals
            clear hc hnil1
            go_wp2
            go_roundw
            case rel => exact ⟨i + 1, _, by go_num, by omega, HP⟩
            case measure => simp only [intOf]; omega
        · have e : i = ss.length := by omega
          have hbf := HB.out
          rw [e] at hbf
          have HO := Lib.hid hbf.own
          rw [List.take_length] at HO
          have HX := Lib.hid hbf.box
          have HBL := Lib.hid (NX.out.trans (hbf.below.mono hsz))
          clear hbf e
          go_wp2
          go_ret2
          exact .inr ⟨HR.out, _, _, rfl, hsz, HX.out, HO.out, HBL.out⟩

end Go.Proofs.Ytlandkindbmbfaa
