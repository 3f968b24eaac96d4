/-
  append onto a list of the call's own by one int: the new list, and the old one, which reads as it did; at a step of a region that draws its order, guarded or not. No condition beyond those that each lemma states.
-/
import Derived.Test.YtlandkindbmbfaaK5
import Derived.ArgAppend
namespace Go.Proofs.Ytlandkindbmbfaa
open Go.RowKit Plain

theorem prefix_own {w : World} {B g n m cap size : Nat} {e : TypeId} {xs ys : List Value} (h : w.ownsRow B e size (.slice (some ⟨g, 0, none⟩) (n + m) cap) (n + m) (xs ++ ys)) (hx : xs.length = n * size) :
    w.ownsRow B e size (.slice (some ⟨g, 0, none⟩) n cap) n xs := by
  rcases h.2 with ⟨h', _⟩ | ⟨g', cap', cur, h', hb, hg, hn, hc, hs, ht⟩
  · simp at h'
  · simp only [Value.slice.injEq, Option.some.injEq, Addr.mk.injEq, and_true, true_and] at h'
    obtain ⟨rfl, rfl⟩ := h'
    refine ⟨hx, .inr ⟨g, cap, cur, rfl, hb, hg, by omega, hc, hs, ?_⟩⟩
    have : (cur.toList.take ((n + m) * size)).take (n * size) = xs := by rw [ht, List.take_append_of_le_length (by omega), ← hx, List.take_length]
    rw [List.take_take, Nat.min_eq_left (by rw [Nat.add_mul]; omega)] at this
    exact this
theorem OwnInts.up {w w' : World} {B : Nat} {v : Value} {l : List Int} (h : OwnInts w B v l) (hb : Below w.heap.size w w') : OwnInts w' B v l := by
  refine ⟨h.1, ?_⟩
  rcases h.2 with h2 | ⟨g, cap, cur, rfl, hB, hg, r⟩
  · exact .inl h2
  · exact .inr ⟨g, cap, cur, rfl, hB, (hb.block g (Array.getElem?_eq_some_iff.1 hg).1).trans hg, r⟩

theorem run_append_keep {w : World} {B : Nat} {v : Value} {l : List Int} {x : Int} {ad : Addr} {c : Nat} {ty : TypeId} (hown : OwnInts w B v l) (hB : B ≤ w.heap.size)
    (hnew : ∀ j u, [Value.int .i64 x][j]? = some u → w.cell? (ad.add j) = some u) (hl : l.length ≤ 17592186044400) :
    ∃ v' w', (Builtin.append_ #[25, 25] ty #[v, .slice (some ad) 1 c]).run Try.prog w = .ok v' w' ∧ IntsAt w' w'.heap.size v' (l ++ [x]) ∧ OwnInts w' B v l ∧ Below B w w' := by
  obtain ⟨i3, qi, q0, q1, q2⟩ := info_parts Try.info3
  have hll : (lits l).length = l.length * 1 := by rw [lits_length, Nat.mul_one]
  rcases Joins.ownsRow_forms hown with ⟨rfl, h0⟩ | ⟨g, cap, rfl⟩
  · obtain rfl := List.length_eq_zero_iff.1 h0
    obtain ⟨v', w', hr, h2, h3, _⟩ := run_append_own (P := Try.prog) w B 25 ty 3 i3 (.int .i64 0) 1 8 Try.underlying25 qi q0 q1 q2 rfl (by decide) (.slice none 0 0) 0 [] (World.ownsRow_nil _ _ _ _) ad 1 c [.int .i64 x] rfl hnew (one_i64 x) (by decide) (by decide) hB
    refine ⟨v', w', hr, ?_, World.ownsRow_nil _ _ _ _, (Below.refl _ _).grown h3 hB (fun k hk => by cases hk)⟩
    exact OwnInts.at (l := [x]) h2
  · by_cases hroom : l.length + 1 ≤ cap
    · obtain ⟨w', hr, h2, h3⟩ := run_append_fits (P := Try.prog) (w := w) B 25 ty 3 i3 1 Try.underlying25 qi q1 g l.length cap (lits l) hown ad 1 c [.int .i64 x] rfl hnew (one_i64 x) hroom
      have hB2 : B ≤ g := (hown.lt g rfl).1
      refine ⟨_, w', hr, ?_, prefix_own h2 hll, (Below.refl _ _).grown h3 hB (fun k hk => by simp at hk; omega)⟩
      refine OwnInts.at (B := B) (l := l ++ [x]) ?_
      unfold OwnInts
      rw [lits_snoc, List.length_append, List.length_singleton]; exact h2
    · obtain ⟨v', w', hr, h2, h3⟩ := run_append_arg_grows (P := Try.prog) w 25 ty 3 i3 (.int .i64 0) 1 8 Try.underlying25 qi q0 q1 q2 rfl (by decide) ⟨g, 0, none⟩ l.length cap (lits l) hll (World.ownsRow.cells hown rfl) ad 1 c [.int .i64 x] rfl hnew (by omega) (by unfold maxLen; omega) (by omega)
      refine ⟨v', w', hr, ?_, World.ownsRow.kept hown h3 (.inr (by simp [Value.ownBlock])), (Below.refl _ _).grown h3 hB (fun k hk => by cases hk)⟩
      refine OwnInts.at (B := w.heap.size) (l := l ++ [x]) ?_
      unfold OwnInts
      rw [lits_snoc, List.length_append, List.length_singleton]; exact h2

set_option maxRecDepth 100000 in
theorem step_append_keep (w : World) {ops : Array Oper} {o : Oper} {a : Act} {K : Act → World → Prop} {Q : Exit → Act → World → Prop} {E : Prop} (hw : Region.wanted o (yielded ops a.tmps) = true) (s x : Operand)
    (ho : o.op = .call { callee := .builtin .append, args := #[s, x], argTypes := #[25, 25] })
    (B : Nat) (v : Value) (l : List Int) (hs : a.eval s = v) (hown : OwnInts w B v l) (ad : Addr) (c : Nat) (y : Int) (hx : a.eval x = .slice (some ad) 1 c)
    (hnew : ∀ j u, [Value.int .i64 y][j]? = some u → w.cell? (ad.add j) = some u) (hl : l.length ≤ 17592186044400) (hB : B ≤ w.heap.size)
    (h : ∀ v' w', IntsAt w' w'.heap.size v' (l ++ [y]) → OwnInts w' B v l → Below B w w' → K (a.put o.dst v') w') :
    if Region.wanted o (yielded ops a.tmps) = true then Oper.wp Try.prog o a w K Q else E := by
  rw [if_pos hw]
  obtain ⟨v', w', hr, h1, h2, h3⟩ := run_append_keep (ty := o.type) hown hB hnew hl
  unfold Oper.wp execOp
  simp only [ho, resolve, invoke, builtin, Sem.run_bind, Sem.run_pure, Result.andThen_ok, List.map_toArray, List.map_cons, List.map_nil, hs, hx]
  rw [hr]
  exact h v' w' h1 h2 h3

theorem lits_set (l : List Int) (j : Nat) (x : Int) : (lits l).set j (.int .i64 x) = lits (l.set j x) := by
  unfold lits; rw [List.map_set]

end Go.Proofs.Ytlandkindbmbfaa
