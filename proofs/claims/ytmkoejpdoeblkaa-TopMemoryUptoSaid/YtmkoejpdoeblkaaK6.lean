/-
  A store while a row goes in or out: keys are one with rows; the lists of a family while they grow or shrink. No condition beyond those that each lemma states.
-/
import Derived.Test.YtmkoejpdoeblkaaK5
namespace Go.Proofs.Ytmkoejpdoeblkaa
open Go.RowKit Pl

theorem keyV_inj {A : List Int} {r s : Rw} (hr : fitsB A r = true) (hs : fitsB A s = true) (hA : okA A = true) (h : keyV r = keyV s) : r = s := by
  simp [keyV, keyC] at h
  obtain ⟨h0, h1, h2, h3, h4, h5, h6, h7, h8⟩ := h
  refine fits_ext hr hs hA h0 (fun j hj => ?_)
  have : j = 0 ∨ j = 1 ∨ j = 2 ∨ j = 3 ∨ j = 4 ∨ j = 5 ∨ j = 6 ∨ j = 7 := by omega
  rcases this with rfl | rfl | rfl | rfl | rfl | rfl | rfl | rfl <;> assumption
theorem okKey_row {r : Rw} (h : okRow r) : okKey 58 (keyV r) := ok58 h.1 (h.2.1 0) (h.2.1 1) (h.2.1 2) (h.2.1 3) (h.2.1 4) (h.2.1 5) (h.2.1 6) (h.2.1 7)
theorem num_push {A : List Int} {l : List Rw} {r : Rw} {f : Value → Option Value} (hA : okA A = true) (hr : fitsB A r = true) (hn : r ∉ l) (hf : ∀ s, fitsB A s = true → okRow s → f (keyV s) = (idx l s).map fun i => .int .i64 (i : Int)) :
    ∀ s, fitsB A s = true → okRow s → upF f (keyV r) (some (.int .i64 (l.length : Int))) (keyV s) = (idx (l ++ [r]) s).map fun i => .int .i64 (i : Int) := by
  intro s hs ho
  by_cases e : s = r
  · subst e; rw [upF_same, idx_new hn]; rfl
  · rw [upF_other (fun h => e (keyV_inj hs hr hA h)), idx_other (fun h => e h.symm)]; exact hf s hs ho
theorem num_pop {A : List Int} {l : List Rw} {r : Rw} {f : Value → Option Value} (hA : okA A = true) (hr : fitsB A r = true) (hn : r ∉ l) (hf : ∀ s, fitsB A s = true → okRow s → f (keyV s) = (idx (l ++ [r]) s).map fun i => .int .i64 (i : Int)) :
    ∀ s, fitsB A s = true → okRow s → upF f (keyV r) none (keyV s) = (idx l s).map fun i => .int .i64 (i : Int) := by
  intro s hs ho
  by_cases e : s = r
  · subst e; rw [upF_same, idx_none.2 hn]; rfl
  · rw [upF_other (fun h => e (keyV_inj hs hr hA h)), hf s hs ho, idx_other (fun h => e h.symm)]
theorem Try.zero22 (w : World) : (zeroValue 22).run Try.prog w = .ok (.slice none 0 0) w := by kernel_rfl
theorem Try.zero3 (w : World) : (zeroValue 3).run Try.prog w = .ok (.int .i64 0) w := by kernel_rfl

section
variable {ι : Type} {F : Fam ι} {w wA w1 w2 w3 : World} {G : Nat → Rl} {b n n' : Nat} {C C' : ι → List Int} {f f' : Value → Option Value} {i0 : ι} {v v' : Value} {o : Obj} {x : Int}
/-- One list of a family grows, between an entry and the store into it. -/
theorem FamF.pushE (h : FamF F w G b n C f) (hi : F.good i0) (hO : Out G w) (h1 : (w.alloc o).grownBy w1 (some b)) (hz : w1.heap.size = (w.alloc o).heap.size)
    (ho : w2.ownsRow 0 3 1 v' ((C i0).length + 1) (lits (C i0) ++ [.int .i64 x])) (hg : w1.grownBy w2 ((f (F.key i0)).getD nilS).ownBlock) (hat : v'.ownBlock = ((f (F.key i0)).getD nilS).ownBlock ∨ v'.ownBlock = some w1.heap.size)
    (hC0 : C' i0 = C i0 ++ [x]) (hC : ∀ i, i ≠ i0 → C' i = C i) (hM : MapAt F.k w3 b n' f') (hg2 : w2.grownBy w3 (some b)) (hf1 : f' (F.key i0) = some v') (hf2 : ∀ x, okKey F.k x → x ≠ F.key i0 → f' x = f x) :
    ∃ G1, FamP F w3 G1 b n' C' ∧ Tr (fun r => r = F.role i0 ∨ r = F.tag) G w G1 w3 ∧ Out G1 w3 := by
  have t1 : Tr (fun r => r = F.tag) G w G w1 := ⟨((Kp.refl _ w).alloc o).grown h1 (fun k hk hx => by obtain rfl := Option.some.inj hk; exact absurd h.tagged hx), fun _ _ => rfl⟩
  have hO1 : Out G w1 := hO.up t1.kp.size
  have hv1 := t1.own (h.vals i0 hi) (F.apart i0)
  obtain ⟨G1, t2, hG, hO2⟩ : ∃ G1, Tr (fun r => r = F.role i0) G w1 G1 w2 ∧ (∀ k, v'.ownBlock = some k → G1 k = F.role i0) ∧ Out G1 w2 := by
    have hk : Kp (fun k => ¬ G k = F.role i0) w1 w2 := ⟨hg.os, hg.tape, hg.output, hg.size, fun k hk hx => hg.block k hk (fun e => hx (hv1.2 k e.symm))⟩
    rcases hat with h9 | h9
    · exact ⟨G, ⟨hk, fun _ _ => rfl⟩, fun k hk => hv1.2 k (by rw [← h9]; exact hk), hO1.up hg.size⟩
    · refine ⟨setR G w1.heap.size (F.role i0), ⟨hk, fun k hk => setR_other (by omega)⟩, fun k hk => ?_, fun k hk => ?_⟩
      · rw [h9] at hk
        obtain rfl := Option.some.inj hk
        exact setR_same _ _ _
      · have := (ho.lt _ h9).2
        rw [setR_other (by omega)]
        exact hO1 k (Nat.le_trans hg.size hk)
  have hb2 : G1 b = F.tag := by rw [t2.agree b (Nat.lt_of_lt_of_le h.map.lt t1.kp.size)]; exact h.tagged
  have t3 : Tr (fun r => r = F.tag) G1 w2 G1 w3 := ⟨(Kp.refl _ w2).grown hg2 (fun k hk hx => by obtain rfl := Option.some.inj hk; exact absurd hb2 hx), fun _ _ => rfl⟩
  refine ⟨G1, ⟨f', hM, hb2, fun i hi' => ?_⟩, ((t1.wide (fun r hr => Or.inr hr)).trans (t2.wide (fun r hr => Or.inl hr))).trans (t3.wide (fun r hr => Or.inr hr)), hO2.up hg2.size⟩
  by_cases e : i = i0
  · subst e
    rw [hf1]
    exact t3.own ⟨by rw [hC0, lits_snoc, List.length_append]; exact ho, hG⟩ (F.apart i)
  · rw [hf2 _ (F.ok i hi') (fun h9 => e (F.inj _ _ h9)), hC i e]
    exact t3.own (t2.own (t1.own (h.vals i hi') (F.apart i)) (fun h9 => e (F.rinj _ _ h9))) (F.apart i)
/-- A list's value, written out. -/
theorem OwnD.form {D : Nat → Prop} {u : Value} {l : List Int} (h : OwnD w D u l) : ∃ a c, u = .slice a l.length c ∧ (l ≠ [] → ∃ g, a = some ⟨g, 0, none⟩) ∧ l.length ≤ c ∧ c ≤ 9223372036854775807 := by
  rcases h.1.2 with ⟨rfl, h0⟩ | ⟨g, cap, cur, rfl, _, _, h2, h3, _⟩
  · obtain rfl := List.length_eq_zero_iff.1 h0
    exact ⟨none, 0, rfl, fun h => absurd rfl h, Nat.zero_le _, by omega⟩
  · exact ⟨_, cap, rfl, fun _ => ⟨g, rfl⟩, h2, by unfold maxLen at h3; omega⟩
/-- The last one off. -/
theorem OwnD.cut {D : Nat → Prop} {a : Option Addr} {c : Nat} {l : List Int} {x : Int} (h : OwnD w D (.slice a (l.length + 1) c) (l ++ [x])) : OwnD w D (.slice a l.length c) l := by
  refine ⟨⟨by rw [lits_length, Nat.mul_one], ?_⟩, fun k hk => h.2 k (by cases a <;> exact hk)⟩
  rcases h.1.2 with ⟨h1, h0⟩ | ⟨g, cap, cur, hv, hg, hh, h2, h3, h4, h5⟩
  · simp at h0
  · simp only [Value.slice.injEq] at hv
    obtain ⟨rfl, _, rfl⟩ := hv
    refine .inr ⟨g, c, cur, rfl, hg, hh, by simp at h2; omega, h3, h4, ?_⟩
    have h6 := congrArg (List.take l.length) h5
    rw [List.take_take, lits_snoc, List.take_left' (by rw [lits_length])] at h6
    rw [List.length_append, List.length_singleton] at h6
    rwa [Nat.min_eq_left (by omega), ← Nat.mul_one l.length] at h6
end

/-! ### The lists of places and ids, while a row's places are gone through -/
def whC (l : List Rw) (r : Rw) (i : Nat) (x : Int × Nat × Int) : List Int := pick (whQ x) l ++ if r.1 = x.1 ∧ x.2.1 < i ∧ r.2[x.2.1]? = some x.2.2 then [(l.length : Int)] else []
theorem whC_start (l : List Rw) (r : Rw) (x : Int × Nat × Int) : whC l r 0 x = pick (whQ x) l := by simp [whC]
theorem whC_end (l : List Rw) (r : Rw) (x : Int × Nat × Int) : whC l r r.2.length x = pick (whQ x) (l ++ [r]) := by
  rw [whC, pick_snoc]
  congr 1
  unfold whQ
  by_cases h : r.1 = x.1 ∧ r.2[x.2.1]? = some x.2.2
  · have := (List.getElem?_eq_some_iff.1 h.2).1
    rw [if_pos ⟨h.1, this, h.2⟩, if_pos (by simpa using h)]
  · rw [if_neg (fun h2 => h ⟨h2.1, h2.2.2⟩), if_neg (by simpa using h)]
theorem whC_here (l : List Rw) (r : Rw) {i : Nat} {d : Int} (hd : r.2[i]? = some d) : whC l r (i + 1) (r.1, i, d) = whC l r i (r.1, i, d) ++ [(l.length : Int)] := by
  simp [whC, hd]
theorem whC_there (l : List Rw) (r : Rw) {i : Nat} {d : Int} (hd : r.2[i]? = some d) {x : Int × Nat × Int} (hx : x ≠ (r.1, i, d)) : whC l r (i + 1) x = whC l r i x := by
  unfold whC
  congr 1
  by_cases h : r.1 = x.1 ∧ x.2.1 < i ∧ r.2[x.2.1]? = some x.2.2
  · rw [if_pos h, if_pos ⟨h.1, by omega, h.2.2⟩]
  · rw [if_neg h, if_neg]
    rintro ⟨h1, h2, h3⟩
    by_cases e : x.2.1 = i
    · refine hx ?_
      rw [e, hd] at h3
      obtain ⟨x1, x2, x3⟩ := x
      simp at h1 e h3
      simp [h1, e, h3]
    · exact h ⟨h1, by omega, h3⟩
theorem whC_here_pre (l : List Rw) (r : Rw) (i : Nat) (d : Int) : whC l r i (r.1, i, d) = pick (whQ (r.1, i, d)) l := by simp [whC]
/-- While they are taken out. -/
def whD (l : List Rw) (r : Rw) (i : Nat) (x : Int × Nat × Int) : List Int := pick (whQ x) l ++ if r.1 = x.1 ∧ i ≤ x.2.1 ∧ r.2[x.2.1]? = some x.2.2 then [(l.length : Int)] else []
theorem whD_start (l : List Rw) (r : Rw) (x : Int × Nat × Int) : whD l r 0 x = pick (whQ x) (l ++ [r]) := by
  rw [whD, pick_snoc]
  congr 1
  unfold whQ
  simp
theorem whD_end (l : List Rw) (r : Rw) (x : Int × Nat × Int) : whD l r r.2.length x = pick (whQ x) l := by
  rw [whD, if_neg, List.append_nil]
  rintro ⟨_, h2, h3⟩
  have := (List.getElem?_eq_some_iff.1 h3).1
  omega
theorem whD_here (l : List Rw) (r : Rw) {i : Nat} {d : Int} (hd : r.2[i]? = some d) : whD l r i (r.1, i, d) = whD l r (i + 1) (r.1, i, d) ++ [(l.length : Int)] := by
  simp [whD, hd]
theorem whD_here_pre (l : List Rw) (r : Rw) (i : Nat) (d : Int) : whD l r (i + 1) (r.1, i, d) = pick (whQ (r.1, i, d)) l := by
  simp only [whD]
  rw [if_neg (fun h => by omega), List.append_nil]
theorem whD_there (l : List Rw) (r : Rw) {i : Nat} {d : Int} (hd : r.2[i]? = some d) {x : Int × Nat × Int} (hx : x ≠ (r.1, i, d)) : whD l r (i + 1) x = whD l r i x := by
  unfold whD
  congr 1
  by_cases h : r.1 = x.1 ∧ i ≤ x.2.1 ∧ r.2[x.2.1]? = some x.2.2
  · by_cases e : x.2.1 = i
    · exfalso
      refine hx ?_
      obtain ⟨h1, h2, h3⟩ := h
      rw [e, hd] at h3
      obtain ⟨x1, x2, x3⟩ := x
      simp at h1 e h3
      simp [h1, e, h3]
    · rw [if_pos h, if_pos ⟨h.1, by omega, h.2.2⟩]
  · rw [if_neg h, if_neg (fun h2 => h ⟨h2.1, by omega, h2.2.2⟩)]
section
variable {G : Nat → Rl} {w : World} {X : Nat} {A : List Int} {l lr : List Rw} {fs : List Value} {V : SV} {Cn : Rw → Option Nat} {Co : Int → List Int} {Cw Cw' : Int × Nat × Int → List Int} {nn no nw : Nat}
theorem Mid.whSame (h : Mid G X A l lr fs V Cn Co Cw nn no nw w) (e : ∀ x, Cw' x = Cw x) : Mid G X A l lr fs V Cn Co Cw' nn no nw w :=
  ⟨h.blk, h.tag, h.ars, h.rows, h.undo, h.num, h.of, h.whr.same e, h.out⟩
theorem Mid.store (h : Mid G X A l l fs V (idx l) (fun p => pick (ofQ p) l) Cw nn no nw w) (e : ∀ x, pick (whQ x) l = Cw x) (h1 : nn ≤ V.N) (h2 : no ≤ V.N) (h3 : nw ≤ 8 * V.N) (hl : l.length ≤ V.N)
    (hf : ∀ r ∈ l, fitsB A r = true ∧ okRow r) (hd : l.Nodup) (hA : okA A = true) : StoreAt G X A l fs V w := by
  obtain ⟨t, f, hm, hc⟩ := h.num
  exact ⟨h.blk, h.tag, h.ars, h.rows, h.undo, ⟨t, f, hm.mono h1, hc⟩, h.of.mono h2, (h.whr.mono h3).same e, hl, hf, hd, h.out, hA⟩
end
end Go.Proofs.Ytmkoejpdoeblkaa
