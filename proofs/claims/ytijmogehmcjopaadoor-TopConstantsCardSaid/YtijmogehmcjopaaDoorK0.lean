/-
  A region that draws its order, whose last operation waits for all reads: reads that yield the same in every world that meets S are taken first; S is to be shown behind every other operation but the last. No condition beyond those that each lemma states.
-/
import Derived.OrdersHeld
import Derived.StillTailTactics
import Derived.Deep.RegionWith
namespace Go.Proofs.YtijmogehmcjopaaDoor
open Go

section
variable {P : Program} {ops : Array Oper} {Q : Exit → Act → World → Prop} {md : Region.Mode} {S : World → Prop} {last : Nat}

/-- Whatever order is picked from here on, and S holds behind every operation but the last. -/
def wpAnyT (P : Program) (md : Region.Mode) (ops : Array Oper) (Q : Exit → Act → World → Prop) (S : World → Prop) (last : Nat) : Nat → Array Bool → Act → World → Prop
  | 0, listed, a, w => Region.ready md ops listed = [] ∧ Q .normal a w
  | fuel + 1, listed, a, w =>
    (Region.ready md ops listed = [] → Q .normal a w) ∧
    ∀ i ∈ Region.ready md ops listed, wpOp P ops Q i (fun a' w' => (i ≠ last → S w') ∧ wpAnyT P md ops Q S last fuel (listed.setIfInBounds i true) a' w') a w

theorem wpAny_of_T : ∀ (fuel : Nat) (listed : Array Bool) (a : Act) (w : World), wpAnyT P md ops Q S last fuel listed a w → wpAny P md ops Q fuel listed a w
  | 0, _, _, _, h => h
  | fuel + 1, _, _, _, h => ⟨h.1, fun i hi => wpOp_mono (fun a' w' h' => wpAny_of_T fuel _ a' w' h'.2) (h.2 i hi)⟩

theorem wpAnyT_first {i : Nat} {oi : Oper} {v : Value} (hi : ops[i]? = some oi) (hsel : ∀ (j : Nat) (o : Oper) cs b, ops[j]? = some o → o.op ≠ .select cs b)
    (hlast : Region.waitsFor md ops last i = true)
    (hQ : ∀ c a w, Q (.panic c) (a.put oi.dst v) w → Q (.panic c) a w) :
    ∀ (fuel : Nat) (listed : Array Bool) (a : Act) (w : World),
      (∀ j oj, ops[j]? = some oj → j ≠ i → listed.getD j true = false → (∀ e ∈ oj.after, Region.binds md e = true → e.on ≠ i) → oi.apart ops oj = true) →
      i ∈ Region.ready md ops listed → YieldsIf P ops S oi v a → S w →
      wpAnyT P md ops Q S last fuel (listed.setIfInBounds i true) (a.put oi.dst v) w → wpAnyT P md ops Q S last (fuel + 1) listed a w := by
  intro fuel
  induction fuel with
  | zero =>
    intro listed a w _ hr hy hS H
    refine ⟨fun h => (by rw [h] at hr; cases hr), fun j hj => ?_⟩
    by_cases hji : j = i
    · subst hji; exact hy.wpOp hi hS ⟨fun _ => hS, H⟩
    · have := ready_mono hj hji
      rw [H.1] at this
      cases this
  | succ fuel ih =>
    intro listed a w hfree hr hy hS H
    refine ⟨fun h => (by rw [h] at hr; cases hr), fun j hj => ?_⟩
    by_cases hji : j = i
    · subst hji; exact hy.wpOp hi hS ⟨fun _ => hS, H⟩
    · have h1 := H.2 j (ready_mono hj hji)
      obtain ⟨hjun, oj, hoj, hall⟩ := mem_ready.1 hj
      have hnot : ∀ e ∈ oj.after, Region.binds md e = true → e.on ≠ i := fun e he hb heq => by
        have h1 := hall e he hb
        have h0 := (mem_ready.1 hr).1
        rw [heq] at h1
        rcases Nat.lt_or_ge i listed.size with h' | h'
        · simp [h'] at h0 h1; rw [h0] at h1; cases h1
        · simp [Array.getElem?_eq_none h'] at h1
      have hjl : j ≠ last := fun e => by
        subst e
        obtain ⟨ol, hol, e, he, hb, heq⟩ := Region.waitsFor_spec hlast
        obtain rfl : ol = oj := Option.some.inj (hol.symm.trans hoj)
        exact hnot e he hb heq
      have h2 := wpOp_putIf hoj (hfree j oj hoj hji hjun hnot) (fun cs b => hsel i oi cs b hi) (fun cs b => hsel j oj cs b hoj) hQ hy h1
      have hfree' : ∀ k ok, ops[k]? = some ok → k ≠ i → (listed.setIfInBounds j true).getD k true = false →
          (∀ e ∈ ok.after, Region.binds md e = true → e.on ≠ i) → oi.apart ops ok = true := fun k ok hk hki hun hno => by
        refine hfree k ok hk hki ?_ hno
        by_cases hjk : j = k
        · subst hjk; exact hjun
        · rw [getD_set_ne true hjk] at hun; exact hun
      refine wpOp_mono (fun a' w' h3 => ⟨h3.2.1, ih (listed.setIfInBounds j true) a' w' hfree' (ready_mono hr (Ne.symm hji)) h3.1 (h3.2.1 hjl) ?_⟩) h2
      rw [Array.setIfInBounds_comm _ _ hji]
      exact h3.2.2

/-- Take number i first. -/
theorem wpAnyT_take (i : Nat) {oi : Oper} {d : Option Tmp} {v : Value} {fuel : Nat} {listed : Array Bool} {a : Act} {w : World} (hi : ops[i]? = some oi) (hd : oi.dst = d)
    (hc : (Region.noSelect ops && Region.free md ops listed i && (Region.ready md ops listed).contains i && Region.waitsFor md ops last i) = true)
    (hQ : ∀ c a w, Q (.panic c) (a.put d v) w → Q (.panic c) a w) (hS : S w) (hy : YieldsIf P ops S oi v a)
    (h : wpAnyT P md ops Q S last fuel (listed.setIfInBounds i true) (a.put d v) w) : wpAnyT P md ops Q S last (fuel + 1) listed a w := by
  subst hd
  simp only [Bool.and_eq_true] at hc
  exact wpAnyT_first hi (Region.noSelect_spec hc.1.1.1) hc.2 hQ fuel listed a w (Region.free_spec hi hc.1.1.2) (by simpa using hc.1.2) hy hS h

/-- Number i alone may come up. -/
theorem wpAnyT_one (i : Nat) {oi : Oper} {fuel : Nat} {listed : Array Bool} {a : Act} {w : World} (hi : ops[i]? = some oi) (hr : Region.ready md ops listed = [i])
    (h : ∀ K' : Act → World → Prop, (∀ a' w', (i ≠ last → S w') → wpAnyT P md ops Q S last fuel (listed.setIfInBounds i true) a' w' → K' a' w') →
      if Region.wanted oi (yielded ops a.tmps) = true then Oper.wp P oi a w K' Q else K' (a.put oi.dst undef) w) : wpAnyT P md ops Q S last (fuel + 1) listed a w := by
  refine ⟨fun h0 => (by rw [hr] at h0; cases h0), fun j hj => ?_⟩
  rw [hr] at hj
  obtain rfl : j = i := by simpa using hj
  exact wpOp_step hi (fun K' hK => h K' (fun a' w' h1 h2 => hK a' w' ⟨h1, h2⟩))

theorem wpAnyT_done {listed : Array Bool} {a : Act} {w : World} (hr : Region.ready md ops listed = []) (h : Q .normal a w) : ∀ fuel, wpAnyT P md ops Q S last fuel listed a w
  | 0 => ⟨hr, h⟩
  | _ + 1 => ⟨fun _ => h, by rw [hr]; simp⟩

theorem wp_region_T {id : Nat} {a : Act} {w : World} (S : World → Prop) (last : Nat) (hm : P.follows .mixedOrders = true)
    (h : wpAnyT P .any ops Q S last ops.size (Array.replicate ops.size false) a w.drew) : (Code.region id ops true).wp P Q a w :=
  wp_region_any hm (wpAny_of_T _ _ _ _ h)

/-- The same, over the list of what is left in the text's order. -/
def wpTL (P : Program) (md : Region.Mode) (l0 : List Oper) (Q : Exit → Act → World → Prop) (S : World → Prop) (last k : Nat) (listed : Array Bool) (l : List Oper) (a : Act) (w : World) : Prop :=
  (∀ j, l[j]? = l0[k + j]?) → wpAnyT P md l0.toArray Q S last l.length listed a w

variable {l0 rest : List Oper} {k : Nat} {listed : Array Bool} {a : Act} {w : World} {o p : Oper}
theorem cons_at (h : ∀ j, (o :: rest)[j]? = l0[k + j]?) : l0.toArray[k]? = some o ∧ ∀ j, rest[j]? = l0[k + 1 + j]? := by
  refine ⟨by have := h 0; simpa using this.symm, fun j => ?_⟩
  have := h (j + 1)
  rw [show k + (j + 1) = k + 1 + j by omega] at this
  simpa using this
def takeB (md : Region.Mode) (ops : Array Oper) (listed : Array Bool) (last i : Nat) : Bool :=
  Region.noSelect ops && Region.free md ops listed i && (Region.ready md ops listed).contains i && Region.waitsFor md ops last i
theorem wpTL_take (d : Option Tmp) (v : Value) (hd : o.dst = d) (hc : takeB md l0.toArray listed last k = true) (hQ : ∀ c a w, Q (.panic c) (a.put d v) w → Q (.panic c) a w) (hS : S w)
    (hy : YieldsIf P l0.toArray S o v a) (h : wpTL P md l0 Q S last (k + 1) (listed.setIfInBounds k true) rest (a.put d v) w) : wpTL P md l0 Q S last k listed (o :: rest) a w := fun hl => by
  obtain ⟨h1, h2⟩ := cons_at hl
  exact wpAnyT_take k h1 hd hc hQ hS hy (h h2)
theorem wpTL_one (hr : Region.ready md l0.toArray listed = [k])
    (h : ∀ K' : Act → World → Prop, (∀ a' w', (k ≠ last → S w') → wpTL P md l0 Q S last (k + 1) (listed.setIfInBounds k true) rest a' w' → K' a' w') →
      if Region.wanted o (yielded l0.toArray a.tmps) = true then Oper.wp P o a w K' Q else K' (a.put o.dst undef) w) : wpTL P md l0 Q S last k listed (o :: rest) a w := fun hl => by
  obtain ⟨h1, h2⟩ := cons_at hl
  exact wpAnyT_one k h1 hr (fun K' hK => h K' (fun a' w' hS hT => hK a' w' hS (hT h2)))
/-- The second one, a read, ahead of the first. -/
theorem wpTL_pair (d : Option Tmp) (v : Value) (hd : p.dst = d) (hc : takeB md l0.toArray listed last (k + 1) = true) (hQ : ∀ c a w, Q (.panic c) (a.put d v) w → Q (.panic c) a w) (hS : S w)
    (hy : YieldsIf P l0.toArray S p v a) (a2 : Act) (he : a.put d v = a2) (hr : Region.ready md l0.toArray (listed.setIfInBounds (k + 1) true) = [k])
    (h : ∀ K' : Act → World → Prop, (∀ a' w', (k ≠ last → S w') → wpTL P md l0 Q S last (k + 1 + 1) ((listed.setIfInBounds (k + 1) true).setIfInBounds k true) rest a' w' → K' a' w') →
      if Region.wanted o (yielded l0.toArray a2.tmps) = true then Oper.wp P o a2 w K' Q else K' (a2.put o.dst undef) w) : wpTL P md l0 Q S last k listed (o :: p :: rest) a w := fun hl => by
  subst he
  obtain ⟨h1, h2⟩ := cons_at hl
  obtain ⟨h3, h4⟩ := cons_at h2
  exact wpAnyT_take (k + 1) h3 hd hc hQ hS hy (wpAnyT_one k h1 hr (fun K' hK => h K' (fun a' w' hS hT => hK a' w' hS (hT h4))))
theorem wpTL_nil (hr : Region.ready md l0.toArray listed = []) (h : Q .normal a w) : wpTL P md l0 Q S last k listed [] a w := fun _ => wpAnyT_done hr h _
theorem wp_region_TL {id : Nat} (S : World → Prop) (last : Nat) (hm : P.follows .mixedOrders = true)
    (h : wpTL P .any l0 Q S last 0 (Array.replicate l0.toArray.size false) l0 a w.drew) : (Code.region id l0.toArray true).wp P Q a w := by
  refine wp_region_T S last hm ?_
  have := h (fun j => by simp)
  simpa using this

end

section
variable {P : Program} {ops : Array Oper} {Q : Exit → Act → World → Prop} {md : Region.Mode} {S : World → Prop}
def takeHB (md : Region.Mode) (ops : Array Oper) (listed : Array Bool) (i : Nat) : Bool := Region.noSelect ops && Region.free md ops listed i && (Region.ready md ops listed).contains i
theorem wpAnyH_tk (i : Nat) {oi : Oper} (d : Option Tmp) (v : Value) {fuel : Nat} {listed : Array Bool} {a : Act} {w : World} (hi : ops[i]? = some oi) (hd : oi.dst = d) (hc : takeHB md ops listed i = true)
    (hQ : ∀ c a w, Q (.panic c) (a.put d v) w → Q (.panic c) a w) (hS : S w) (hy : YieldsIf P ops S oi v a)
    (h : wpAnyH P md ops Q S fuel (listed.setIfInBounds i true) (a.put d v) w) : wpAnyH P md ops Q S (fuel + 1) listed a w := by
  subst hd
  simp only [takeHB, Bool.and_eq_true] at hc
  exact wpAnyH_take hi hc.1.1 hc.1.2 hc.2 hQ hy hS h
theorem wpAnyH_one (i : Nat) {oi : Oper} {fuel : Nat} {listed : Array Bool} {a : Act} {w : World} (hi : ops[i]? = some oi) (hr : Region.ready md ops listed = [i])
    (h : ∀ K' : Act → World → Prop, (∀ a' w', S w' → wpAnyH P md ops Q S fuel (listed.setIfInBounds i true) a' w' → K' a' w') →
      if Region.wanted oi (yielded ops a.tmps) = true then Oper.wp P oi a w K' Q else K' (a.put oi.dst undef) w) : wpAnyH P md ops Q S (fuel + 1) listed a w := by
  refine ⟨fun h0 => (by rw [hr] at h0; cases h0), fun j hj => ?_⟩
  rw [hr] at hj
  obtain rfl : j = i := by simpa using hj
  exact wpOp_step hi (fun K' hK => h K' (fun a' w' h1 h2 => hK a' w' ⟨h1, h2⟩))
theorem wpAnyH_two (i j : Nat) {oi oj : Oper} {fuel : Nat} {listed : Array Bool} {a : Act} {w : World} (hi : ops[i]? = some oi) (hj : ops[j]? = some oj) (hr : Region.ready md ops listed = [i, j])
    (h : ∀ K' : Act → World → Prop, (∀ a' w', S w' → wpAnyH P md ops Q S fuel (listed.setIfInBounds i true) a' w' → K' a' w') →
      if Region.wanted oi (yielded ops a.tmps) = true then Oper.wp P oi a w K' Q else K' (a.put oi.dst undef) w)
    (g : ∀ K' : Act → World → Prop, (∀ a' w', S w' → wpAnyH P md ops Q S fuel (listed.setIfInBounds j true) a' w' → K' a' w') →
      if Region.wanted oj (yielded ops a.tmps) = true then Oper.wp P oj a w K' Q else K' (a.put oj.dst undef) w) : wpAnyH P md ops Q S (fuel + 1) listed a w := by
  refine ⟨fun h0 => (by rw [hr] at h0; cases h0), fun k hk => ?_⟩
  rw [hr] at hk
  simp only [List.mem_cons, List.not_mem_nil, or_false] at hk
  rcases hk with rfl | rfl
  · exact wpOp_step hi (fun K' hK => h K' (fun a' w' h1 h2 => hK a' w' ⟨h1, h2⟩))
  · exact wpOp_step hj (fun K' hK => g K' (fun a' w' h1 h2 => hK a' w' ⟨h1, h2⟩))
theorem wp_region_H {id : Nat} {a : Act} {w : World} (S : World → Prop) (hm : P.follows .mixedOrders = true)
    (h : wpAnyH P .any ops Q S ops.size (Array.replicate ops.size false) a w.drew) : (Code.region id ops true).wp P Q a w := wp_region_held hm h
theorem wpAnyT_two (i j : Nat) {oi oj : Oper} {last : Nat} {fuel : Nat} {listed : Array Bool} {a : Act} {w : World} (hi : ops[i]? = some oi) (hj : ops[j]? = some oj) (hr : Region.ready md ops listed = [i, j])
    (h : ∀ K' : Act → World → Prop, (∀ a' w', (i ≠ last → S w') → wpAnyT P md ops Q S last fuel (listed.setIfInBounds i true) a' w' → K' a' w') →
      if Region.wanted oi (yielded ops a.tmps) = true then Oper.wp P oi a w K' Q else K' (a.put oi.dst undef) w)
    (g : ∀ K' : Act → World → Prop, (∀ a' w', (j ≠ last → S w') → wpAnyT P md ops Q S last fuel (listed.setIfInBounds j true) a' w' → K' a' w') →
      if Region.wanted oj (yielded ops a.tmps) = true then Oper.wp P oj a w K' Q else K' (a.put oj.dst undef) w) : wpAnyT P md ops Q S last (fuel + 1) listed a w := by
  refine ⟨fun h0 => (by rw [hr] at h0; cases h0), fun k hk => ?_⟩
  rw [hr] at hk
  simp only [List.mem_cons, List.not_mem_nil, or_false] at hk
  rcases hk with rfl | rfl
  · exact wpOp_step hi (fun K' hK => h K' (fun a' w' h1 h2 => hK a' w' ⟨h1, h2⟩))
  · exact wpOp_step hj (fun K' hK => g K' (fun a' w' h1 h2 => hK a' w' ⟨h1, h2⟩))
theorem wpAnyT_tk (i : Nat) {oi : Oper} {last : Nat} (d : Option Tmp) (v : Value) {fuel : Nat} {listed : Array Bool} {a : Act} {w : World} (hi : ops[i]? = some oi) (hd : oi.dst = d) (hc : takeB md ops listed last i = true)
    (hQ : ∀ c a w, Q (.panic c) (a.put d v) w → Q (.panic c) a w) (hS : S w) (hy : YieldsIf P ops S oi v a)
    (h : wpAnyT P md ops Q S last fuel (listed.setIfInBounds i true) (a.put d v) w) : wpAnyT P md ops Q S last (fuel + 1) listed a w :=
  wpAnyT_take i hi hd hc hQ hS hy h
end
end Go.Proofs.YtijmogehmcjopaaDoor
