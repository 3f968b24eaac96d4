/-
  Lists of numbers in a list, no two in one block: what a store and an append do to them. No condition beyond those that each lemma states.
-/
import Derived.Test.YtlandkindbmbfaaW29
import Derived.Test.YtlandkindbmbfaaW14
namespace Go.Proofs.Ytlandkindbmbfaa
open Go.RowKit Plain

/-- append of one number onto a list of the call's own: the new list, the old one, and where the new one lies. -/
theorem run_append_both {w : World} {B : Nat} {v : Value} {l : List Int} {x : Int} {ad : Addr} {c : Nat} {ty : TypeId} (hown : OwnInts w B v l) (hB : B ≤ w.heap.size)
    (hnew : ∀ j u, [Value.int .i64 x][j]? = some u → w.cell? (ad.add j) = some u) (hl : l.length ≤ 17592186044400) :
    ∃ v' w', (Builtin.append_ #[25, 25] ty #[v, .slice (some ad) 1 c]).run Try.prog w = .ok v' w' ∧ OwnInts w' B v' (l ++ [x]) ∧ OwnInts w' B v l ∧ w.grownBy w' v.ownBlock ∧ (v'.ownBlock = v.ownBlock ∨ ∀ k, v'.ownBlock = some k → w.heap.size ≤ k) := by
  obtain ⟨i3, qi, q0, q1, q2⟩ := info_parts Try.info3
  have hll : (lits l).length = l.length * 1 := by rw [lits_length, Nat.mul_one]
  rcases Joins.ownsRow_forms hown with ⟨rfl, h0⟩ | ⟨g, cap, rfl⟩
  · obtain rfl := List.length_eq_zero_iff.1 h0
    obtain ⟨v', w', hr, h2, h3, _, h5⟩ := run_append_own_at (P := Try.prog) w B 25 ty 3 i3 (.int .i64 0) 1 8 Try.underlying25 qi q0 q1 q2 rfl (by decide) (.slice none 0 0) 0 [] (World.ownsRow_nil _ _ _ _) ad 1 c [.int .i64 x] rfl hnew (one_i64 x) (by decide) (by decide) hB
    refine ⟨v', w', hr, h2, World.ownsRow_nil _ _ _ _, h3, ?_⟩
    rcases h5 with h5 | h5
    · exact .inl h5
    · exact .inr (fun k hk => by rw [h5] at hk; have := Option.some.inj hk; omega)
  · by_cases hroom : l.length + 1 ≤ cap
    · obtain ⟨w', hr, h2, h3⟩ := run_append_fits (P := Try.prog) (w := w) B 25 ty 3 i3 1 Try.underlying25 qi q1 g l.length cap (lits l) hown ad 1 c [.int .i64 x] rfl hnew (one_i64 x) hroom
      refine ⟨_, w', hr, ?_, prefix_own h2 hll, h3, .inl rfl⟩
      unfold OwnInts
      rw [lits_snoc, List.length_append, List.length_singleton]; exact h2
    · obtain ⟨v', w', hr, h2, h3⟩ := run_append_arg_grows (P := Try.prog) w 25 ty 3 i3 (.int .i64 0) 1 8 Try.underlying25 qi q0 q1 q2 rfl (by decide) ⟨g, 0, none⟩ l.length cap (lits l) hll (World.ownsRow.cells hown rfl) ad 1 c [.int .i64 x] rfl hnew (by omega) (by unfold maxLen; omega) (by omega)
      refine ⟨v', w', hr, ?_, World.ownsRow.kept hown h3 (.inr (by simp [Value.ownBlock])), ⟨h3.os, h3.tape, h3.output, h3.size, fun k hk _ => h3.block k hk (by simp)⟩, .inr (fun k hk => (World.ownsRow.lt h2 k hk).1)⟩
      refine OwnInts.mono (B := w.heap.size) ?_ hB
      unfold OwnInts
      rw [lits_snoc, List.length_append, List.length_singleton]; exact h2
theorem wpList_append_both (w : World) {ops : Array Oper} {rest : List Oper} {o : Oper} {a : Act} {Q : Exit → Act → World → Prop} (hgd : o.guard = none) (s x : Operand)
    (ho : o.op = .call { callee := .builtin .append, args := #[s, x], argTypes := #[25, 25] })
    (B : Nat) (v : Value) (l : List Int) (y : Int) (hs : a.eval s = v) (hown : OwnInts w B v l) (ad : Addr) (c : Nat) (hx : a.eval x = .slice (some ad) 1 c)
    (hnew : ∀ j u, [Value.int .i64 y][j]? = some u → w.cell? (ad.add j) = some u) (hl : l.length ≤ 17592186044400) (hB : B ≤ w.heap.size)
    (h : ∀ v' w', OwnInts w' B v' (l ++ [y]) → OwnInts w' B v l → w.grownBy w' v.ownBlock → (v'.ownBlock = v.ownBlock ∨ ∀ k, v'.ownBlock = some k → w.heap.size ≤ k) → wpList Try.prog ops Q rest (a.put o.dst v') w') :
    wpList Try.prog ops Q (o :: rest) a w := by
  refine wpList_plain hgd fun K hK => ?_
  obtain ⟨v', w', hr, h1, h2, h3, h4⟩ := run_append_both (ty := o.type) hown hB hnew hl
  unfold Oper.wp execOp
  simp only [ho, resolve, invoke, builtin, Sem.run_bind, Sem.run_pure, Result.andThen_ok, List.map_toArray, List.map_cons, List.map_nil, hs, hx]
  rw [hr]
  exact hK _ _ (h v' w' h1 h2 h3 h4)

/-- Lists in a list; T tells of a block whose it is (0: nobody's). -/
structure Lss (w : World) (B : Nat) (T : Nat → Nat) (v : Value) (vs : List Value) (ls : List (List Int)) : Prop where
  row : w.ownsRow B 25 1 v ls.length vs
  len : vs.length = ls.length
  ints : ∀ (j : Nat) (u : Value) (l : List Int), vs[j]? = some u → ls[j]? = some l → OwnInts w B u l ∧ ∀ k, u.ownBlock = some k → T k = j + 1
section
variable {w w' : World} {B : Nat} {T T' : Nat → Nat} {v u : Value} {vs : List Value} {ls : List (List Int)} {l : List Int}
theorem Lss.keep (h : Lss w B T v vs ls) (hr : ∀ k, v.ownBlock = some k → w'.heap[k]? = w.heap[k]?) (hb : ∀ k, k < w.heap.size → T k ≠ 0 → w'.heap[k]? = w.heap[k]? ∧ T' k = T k) : Lss w' B T' v vs ls :=
  ⟨row_keep h.row hr, h.len, fun j x m h1 h2 => by
    obtain ⟨h3, h4⟩ := h.ints j x m h1 h2
    exact ⟨row_keep h3 (fun k hk => (hb k (World.ownsRow.lt h3 k hk).2 (by rw [h4 k hk]; omega)).1), fun k hk => by rw [(hb k (World.ownsRow.lt h3 k hk).2 (by rw [h4 k hk]; omega)).2]; exact h4 k hk⟩⟩
theorem Lss.up (h : Lss w B T v vs ls) (hb : Below w.heap.size w w') : Lss w' B T v vs ls :=
  h.keep (fun k hk => hb.block k (World.ownsRow.lt h.row k hk).2) (fun k hk _ => ⟨hb.block k hk, rfl⟩)
theorem Lss.form (h : Lss w B T v vs ls) : ∃ a c, v = .slice a ls.length c ∧ (ls ≠ [] → ∃ g, a = some ⟨g, 0, none⟩) := by
  rcases Joins.ownsRow_forms h.row with ⟨rfl, h0⟩ | ⟨g, cap, rfl⟩
  · exact ⟨none, 0, by rw [h0], fun hn => absurd (List.length_eq_zero_iff.1 h0) hn⟩
  · exact ⟨some ⟨g, 0, none⟩, cap, rfl, fun _ => ⟨g, rfl⟩⟩
theorem Lss.cell {g n c j : Nat} (h : Lss w B T (.slice (some ⟨g, 0, none⟩) n c) vs ls) (hj : vs[j]? = some u) : w.cell? ⟨g, j, none⟩ = some u := by
  have hjl : j < vs.length := (List.getElem?_eq_some_iff.1 hj).1
  have hr := h.row
  have e : n = ls.length := by
    rcases Joins.ownsRow_forms hr with ⟨h1, _⟩ | ⟨g', cap, h1⟩
    · cases h1
    · simp only [Value.slice.injEq] at h1; exact h1.2.1
  rw [e] at hr
  rw [World.ownsRow.cellAt hr j (by rw [Nat.mul_one, ← h.len]; exact hjl)]
  exact hj
theorem Lss.get (h : Lss w B T v vs ls) {j : Nat} (hl : ls[j]? = some l) : ∃ u, vs[j]? = some u ∧ OwnInts w B u l ∧ ∀ k, u.ownBlock = some k → T k = j + 1 := by
  have hjl : j < ls.length := (List.getElem?_eq_some_iff.1 hl).1
  have e : vs[j]? = some (vs[j]'(by rw [h.len]; exact hjl)) := List.getElem?_eq_getElem _
  exact ⟨_, e, h.ints j _ l e hl⟩
/-- One number of one list is written. -/
theorem Lss.store {g n c i k : Nat} (h : Lss w B T v vs ls) (hu : vs[k]? = some (.slice (some ⟨g, 0, none⟩) n c)) (hl : ls[k]? = some l) (x : Int) :
    Lss (w.setCell ⟨g, i, none⟩ (.int .i64 x)) B T v vs (ls.set k (l.set i x)) ∧ Turned (fun b => T b + 1) w (w.setCell ⟨g, i, none⟩ (.int .i64 x)) := by
  obtain ⟨ho, hT⟩ := h.ints k _ l hu hl
  have hg : T g = k + 1 := hT g rfl
  have hkl : k < ls.length := (List.getElem?_eq_some_iff.1 hl).1
  have hoth : ∀ b, b ≠ g → (w.setCell ⟨g, i, none⟩ (.int .i64 x)).heap[b]? = w.heap[b]? := fun b hb => Below.heap_setCell _ _ _ _ hb
  refine ⟨⟨?_, by rw [List.length_set]; exact h.len, fun j y m h1 h2 => ?_⟩, Turned.of_set (by show 2 ≤ T g + 1; omega)⟩
  · rw [List.length_set]
    refine row_keep h.row (fun b hb => hoth b (fun e => ?_))
    rcases types_apart h.row ho (by decide) with h3 | h3
    · rw [h3] at hb; cases hb
    · exact h3 (by rw [hb, e]; rfl)
  · by_cases e : j = k
    · subst e
      rw [hu] at h1
      obtain rfl := Option.some.inj h1
      rw [List.getElem?_set_self hkl] at h2
      obtain rfl := Option.some.inj h2
      refine ⟨?_, hT⟩
      unfold OwnInts
      rw [← lits_set, List.length_set]
      have hn : n = l.length := by
        rcases Joins.ownsRow_forms ho with ⟨h1, _⟩ | ⟨g', cap, h1⟩
        · cases h1
        · simp only [Value.slice.injEq] at h1; exact h1.2.1
      rw [hn] at ho ⊢
      exact (World.ownsRow.stored ho i (.int .i64 x)).1
    · rw [List.getElem?_set_ne (fun e2 => e e2.symm)] at h2
      obtain ⟨h3, h4⟩ := h.ints j y m h1 h2
      exact ⟨row_keep h3 (fun b hb => hoth b (fun e2 => by have := h4 b hb; rw [e2, hg] at this; omega)), h4⟩
end

/-- The list number j is full of its mark. -/
def mark (j : Nat) : Int := -100 - (j : Int)
def MkTo (ls : List (List Int)) (k i : Nat) : Prop := ∀ (j : Nat) (l : List Int), ls[j]? = some l → ∀ p, p < l.length → (j < k ∨ (j = k ∧ p < i)) → at' l p = mark j
theorem MkTo.start (ls : List (List Int)) : MkTo ls 0 0 := fun j l _ p _ h => by omega
theorem MkTo.next {ls : List (List Int)} {k : Nat} {l : List Int} (h : MkTo ls k l.length) (hl : ls[k]? = some l) : MkTo ls (k + 1) 0 := fun j m hm p hp hj => by
  by_cases e : j = k
  · subst e; rw [hl] at hm; obtain rfl := Option.some.inj hm; exact h j l hl p hp (.inr ⟨rfl, hp⟩)
  · exact h j m hm p hp (.inl (by omega))
theorem at_set_self {l : List Int} {i : Nat} {x : Int} (h : i < l.length) : at' (l.set i x) i = x := by unfold at'; rw [List.getElem?_set_self h]; rfl
theorem at_set_ne {l : List Int} {i p : Nat} {x : Int} (h : p ≠ i) : at' (l.set i x) p = at' l p := by unfold at'; rw [List.getElem?_set_ne (fun e => h e.symm)]
theorem MkTo.round {ls : List (List Int)} {k i : Nat} {l : List Int} (h : MkTo ls k i) (hl : ls[k]? = some l) (hi : i < l.length) : MkTo (ls.set k (l.set i (mark k))) k (i + 1) := fun j m hm p hp hj => by
  have hkl : k < ls.length := (List.getElem?_eq_some_iff.1 hl).1
  by_cases e : j = k
  · subst e
    rw [List.getElem?_set_self hkl] at hm
    obtain rfl := Option.some.inj hm
    rw [List.length_set] at hp
    by_cases e2 : p = i
    · subst e2; exact at_set_self hi
    · rw [at_set_ne e2]; exact h j l hl p hp (.inr ⟨rfl, by omega⟩)
  · rw [List.getElem?_set_ne (fun e2 => e e2.symm)] at hm
    exact h j m hm p hp (.inl (by omega))
theorem MkTo.full {ls : List (List Int)} (h : MkTo ls ls.length 0) {j : Nat} {l : List Int} (hl : ls[j]? = some l) {p : Nat} (hp : p < l.length) : at' l p = mark j :=
  h j l hl p hp (.inl (List.getElem?_eq_some_iff.1 hl).1)

end Go.Proofs.Ytlandkindbmbfaa
