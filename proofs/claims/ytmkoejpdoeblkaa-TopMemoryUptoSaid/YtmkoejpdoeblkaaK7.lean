/-
  A store while its last row goes out. No condition beyond those that each lemma states.
-/
import Derived.Test.YtmkoejpdoeblkaaK6
namespace Go.Proofs.Ytmkoejpdoeblkaa
open Go.RowKit Pl Go.Maps

theorem ownsMap_exact {w : World} {k : TypeId} {b n : Nat} {D : DataW Value} (h : w.ownsMap Try.prog k raw b n D) : w.ownsMap Try.prog k raw b (Maps.size D) D := by
  obtain ⟨es, ck, hb, F, hs, rfl⟩ := h
  exact ⟨es, ck, hb, F, by simp [Maps.size, length_sorted], rfl⟩
section
variable {k t e b n : Nat} {w : World} {f f' : Value → Option Value} {key : Value}
/-- A store at a key that is there. -/
theorem MapAt.restore (h : MapAt k w b n f) (K : Keyed Try.prog k) (ht : Try.prog.underlying t = some (.map k e)) (hn : n < maxLen) (hk : okKey k key) (val : Value) (hin : f key ≠ none)
    (hf1 : f' key = some val) (hf2 : ∀ x, okKey k x → x ≠ key → f' x = f x) :
    ∃ w', (Instr.mapUpdate t (.map (some b)) key val).run Try.prog w = .ok () w' ∧ MapAt k w' b n f' ∧ w.grownBy w' (some b) := by
  obtain ⟨D, h1, h2, h3⟩ := h
  obtain ⟨kl, hkey⟩ := hk
  obtain ⟨w', hrun, ho, hg⟩ := h1.update (val := val) (d := .held val) (ps := []) K ht hn hkey rfl
  obtain ⟨g1, g2⟩ := put_fun (val := val) h1.isMap K hkey h2 h3 hf1 hf2
  have hhas : has D kl = true := by
    cases hh : has D kl with
    | true => rfl
    | false =>
      rw [h3 key kl hkey, atKey_of_not_has hh] at hin
      exact absurd rfl hin
  have hsz := size_put (k := kl) (h1.tidy K) (.held val)
  rw [hhas] at hsz
  have h9 := ownsMap_exact ho
  have h10 := h1.size_le
  refine ⟨w', hrun, ⟨_, h9.mono ?_, g1, g2⟩, hg⟩
  simp at hsz
  omega
end
section
variable {ι : Type} {F : Fam ι} {w w1 : World} {G : Nat → Rl} {b n : Nat} {C C' : ι → List Int} {f f' : Value → Option Value} {i0 : ι} {v' : Value}
/-- The map turns at one key, no list does. -/
theorem FamF.turn (h : FamF F w G b n C f) (hv : OwnD w (fun k => G k = F.role i0) v' (C' i0)) (hM : MapAt F.k w1 b n f') (hg : w.grownBy w1 (some b)) (hf1 : (f' (F.key i0)).getD nilS = v') (hf2 : ∀ x, okKey F.k x → x ≠ F.key i0 → f' x = f x)
    (hC : ∀ i, i ≠ i0 → C' i = C i) : FamF F w1 G b n C' f' ∧ Tr (fun r => r = F.tag) G w G w1 := by
  have t2 : Tr (fun r => r = F.tag) G w G w1 := ⟨(Kp.refl _ w).grown hg (fun k hk hx => by obtain rfl := Option.some.inj hk; exact absurd h.tagged hx), fun _ _ => rfl⟩
  refine ⟨⟨hM, h.tagged, fun i hi => ?_⟩, t2⟩
  by_cases e : i = i0
  · subst e
    rw [hf1]
    exact t2.own hv (F.apart i)
  · rw [hf2 _ (F.ok i hi) (fun h9 => e (F.inj _ _ h9)), hC i e]
    exact t2.own (h.vals i hi) (F.apart i)
end
theorem UndoP.less {w : World} {G : Nat → Rl} {X : Nat} {uv : Value} {l : List Rw} {r : Rw} {fs : List Value} (h : UndoP w G X uv (l ++ [r]) fs) : UndoP w G X uv l fs :=
  ⟨h.row, h.tagged, by have := h.len; simp at this; omega, fun j s hj => h.clos j s (by
    have := (List.getElem?_eq_some_iff.1 hj).1
    rw [List.getElem?_append_left this]; exact hj)⟩
theorem flat3_take : ∀ (l : List Rw) (r : Rw) (us : List Value) (bs : List Int), us.length = (l ++ [r]).length → bs.length = (l ++ [r]).length → (flat3 (l ++ [r]) us bs).take (l.length * 3) = flat3 l (us.take l.length) (bs.take l.length)
  | [], _, _, _, _, _ => by simp [flat3]
  | s :: l, r, u :: us, b :: bs, h1, h2 => by
    have ih := flat3_take l r us bs (by simpa using h1) (by simpa using h2)
    rw [show (s :: l).length * 3 = l.length * 3 + 1 + 1 + 1 by simp; omega]
    simp [flat3, ih]
  | _ :: _, _, [], _, h, _ => by simp at h
  | _ :: _, _, _ :: _, [], _, h => by simp at h
/-- The last row off. -/
theorem RowsP.cut {w : World} {G : Nat → Rl} {a : Option Addr} {n c : Nat} {l : List Rw} {r : Rw} (h : RowsP w G (.slice a n c) (l ++ [r])) : RowsP w G (.slice a l.length c) l := by
  obtain ⟨us, bs, h1, h2, h3, h4, h5⟩ := h
  refine ⟨us.take l.length, bs.take l.length, by simp at h1; simp [h1], by simp at h2; simp [h2], ⟨?_, ?_⟩, fun k hk => h4 k (by cases a <;> exact hk), fun j s u hj hu => ?_⟩
  · exact flat3_length _ _ _ (by simp at h1; simp [h1]) (by simp at h2; simp [h2])
  · rcases h3.2 with ⟨h6, h0⟩ | ⟨g, cap, cur, hv, hg, hh, q2, q3, q4, q5⟩
    · simp at h0
    · simp only [Value.slice.injEq] at hv
      obtain ⟨rfl, _, rfl⟩ := hv
      refine .inr ⟨g, c, cur, rfl, hg, hh, by simp at q2; omega, q3, q4, ?_⟩
      have h6 := congrArg (List.take (l.length * 3)) q5
      rw [List.take_take, flat3_take _ _ _ _ h1 h2] at h6
      rwa [Nat.min_eq_left (by simp; omega)] at h6
  · have hjl := (List.getElem?_eq_some_iff.1 hj).1
    refine h5 j s u (by rw [List.getElem?_append_left hjl]; exact hj) ?_
    rw [List.getElem?_take] at hu
    rw [if_pos hjl] at hu
    exact hu
section
variable {G : Nat → Rl} {w w1 : World} {X : Nat} {A : List Int} {l lr : List Rw} {fs : List Value} {V : SV} {Cn : Rw → Option Nat} {Co : Int → List Int} {Cw : Int × Nat × Int → List Int} {nn no nw : Nat} {r : Rw} {a : Option Addr} {n c : Nat}
theorem Mid.rowOut (h : Mid G X A l (lr ++ [r]) fs V Cn Co Cw nn no nw w) (hv : V.rv = .slice a n c) :
    Mid G X A l lr fs { V with rv := .slice a lr.length c } Cn Co Cw nn no nw (w.setCell ⟨X, 1, none⟩ (.slice a lr.length c)) ∧ Tr (fun r => r = .st) G w G (w.setCell ⟨X, 1, none⟩ (.slice a lr.length c)) := by
  have t := Tr.setX h.tag w 1 (.slice a lr.length c)
  have hr := h.rows
  rw [hv] at hr
  exact ⟨⟨h.blk.set1 _, h.tag, t.own h.ars (by simp), hr.cut.tr t (by simp) (by simp), h.undo.tr t (by simp) (by simp), h.num.tr t (by simp), h.of.tr t (by simp [ofF]) (by simp [ofF]), h.whr.tr t (by simp [whF]) (by simp [whF]), h.out.set _ _⟩, t⟩
theorem Mid.less (h : Mid G X A (l ++ [r]) lr fs V Cn Co Cw nn no nw w) : Mid G X A l lr fs V Cn Co Cw nn no nw w := ⟨h.blk, h.tag, h.ars, h.rows, h.undo.less, h.num, h.of, h.whr, h.out⟩
end
section
variable {P : Program} {w w' : World} {ops : Array Oper} {rest : List Oper} {o : Oper} {a : Act} {Q : Exit → Act → World → Prop}
theorem wpList_delete (hgd : o.guard = none) (m x : Operand) (t k : TypeId) (ho : o.op = .call { callee := .builtin .delete, args := #[m, x], argTypes := #[t, k] }) (mv kv : Value) (hm : a.eval m = mv) (hx : a.eval x = kv)
    (hrun : ∀ ty, (Builtin.delete_ #[t, k] ty #[mv, kv]).run P w = .ok (.tuple #[]) w') (h : wpList P ops Q rest (a.put o.dst (.tuple #[])) w') : wpList P ops Q (o :: rest) a w := by
  refine wpList_plain hgd fun K hK => ?_
  unfold Oper.wp execOp
  simp only [ho, resolve, invoke, builtin, Sem.run_bind, Sem.run_pure, Result.andThen_ok, List.map_toArray, List.map_cons, List.map_nil, hm, hx, hrun]
  exact hK _ _ h
end
end Go.Proofs.Ytmkoejpdoeblkaa
