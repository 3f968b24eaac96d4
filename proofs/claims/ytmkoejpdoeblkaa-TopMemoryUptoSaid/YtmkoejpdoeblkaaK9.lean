/-
  What stands at the head of a step of TopMemory, and what keeps it. No condition beyond those that each lemma states.
-/
import Derived.Test.YtmkoejpdoeblkaaK8
namespace Go.Proofs.Ytmkoejpdoeblkaa
open Go.RowKit Pl

def okB (A : List Int) (i : Nat) : Bool := decide (A.length ≤ 128) && (A.take i).all (fun a => decide (0 ≤ a ∧ a ≤ 8))
theorem okB_start (A : List Int) : okB A 0 = decide (A.length ≤ 128) := by simp [okB]
theorem okB_end (A : List Int) : okB A A.length = okA A := by simp [okB, okA]
theorem okB_next {A : List Int} {i : Nat} {x : Int} (h : A[i]? = some x) : okB A (i + 1) = (okB A i && decide (0 ≤ x ∧ x ≤ 8)) := by
  unfold okB
  rw [List.take_add_one, h]
  show (_ && ((A.take i ++ [x]).all _)) = _
  rw [List.all_append, Bool.and_assoc]
  simp
/-- Memory at the head of a step. -/
structure St (w : World) (B b5 : Nat) (A : List Int) (N : Nat) (wr : World) (X : Nat) (G : Nat → Rl) (l : List Rw) (fs : List Value) (V : SV) : Prop where
  store : StoreAt G X A l fs V wr
  len : l.length = fs.length
  lows : LowsP wr G V.lv
  box : wr.heap[b5]? = some (.cells #[.pointer (some ⟨X, 0, none⟩)] 24)
  boxO : G b5 = .out
  boxB : B ≤ b5
  low : Below B w wr
  roles : ∀ k, G k ≠ .out → B ≤ k
  num : V.N ≤ N
  size : w.heap.size = B

section
variable {w w' wr w3 w4 : World} {G G' : Nat → Rl} {B b5 N N' X X' : Nat} {A : List Int} {l l' : List Rw} {fs fs' : List Value} {V V' : SV} {ex : Rl → Prop} {v : Value}
theorem Tr.low (t : Tr ex G wr G' w') (hx : ¬ ex .out) (h : Below B w wr) (hr : ∀ k, G k ≠ .out → B ≤ k) (hB : B ≤ w.heap.size) : Below B w w' :=
  ⟨t.kp.os.trans h.os, t.kp.tape.trans h.tape, t.kp.output.trans h.output, Nat.le_trans h.size t.kp.size, fun k hk => (t.kp.block k (by have := h.size; omega) (by
    have : G k = .out := by
      by_cases e : G k = .out
      · exact e
      · have := hr k e; omega
    rw [this]; exact hx)).trans (h.block k hk)⟩
theorem Tr.roles (t : Tr ex G wr G' w') (hr : ∀ k, G k ≠ .out → B ≤ k) (hB : B ≤ wr.heap.size) : ∀ k, G' k ≠ .out → B ≤ k := fun k hk => by
  by_cases e : k < wr.heap.size
  · rw [t.agree k e] at hk; exact hr k hk
  · omega
/-- The store turns, what is no store's stands. -/
theorem St.turn (h : St w B b5 A N wr X G l fs V) (t : Tr ex G wr G' w') (hx : ¬ ex .out) (hs : StoreAt G' X A l' fs' V' w') (hl : l'.length = fs'.length) (hlo : LowsP w' G' V'.lv) (hN : V'.N ≤ N') : St w B b5 A N' w' X G' l' fs' V' := by
  have hz := h.low.size
  obtain ⟨h1, h2⟩ := t.cells h.box h.boxO hx
  exact ⟨hs, hl, hlo, h1, h2, h.boxB, t.low hx h.low h.roles (by rw [h.size]; exact Nat.le_refl _), t.roles h.roles (by have := h.size; omega), hN, h.size⟩
/-- What is no store's turns. -/
theorem St.out (h : St w B b5 A N wr X G l fs V) (k : Kp (fun k => G k ≠ .out) wr w') (hb : w'.heap[b5]? = wr.heap[b5]?) (hlow : Below B w w') : St w B b5 A N w' X G l fs V := by
  have t : Tr (fun r => r = .out) G wr G w' := ⟨k, fun _ _ => rfl⟩
  exact ⟨h.store.tr t (fun r h1 h2 h3 => h1 h3) (h.store.out.up k.size), h.len, h.lows.tr t (by simp), hb.trans h.box, h.boxO, h.boxB, hlow, h.roles, h.num, h.size⟩
theorem St.up (h : St w B b5 A N wr X G l fs V) (hb : Below wr.heap.size wr w') : St w B b5 A N w' X G l fs V :=
  h.out (Kp.of hb) (hb.block b5 (Array.getElem?_eq_some_iff.1 h.box).1) (h.low.trans (hb.mono (by have := h.low.size; have := h.size; omega)))
theorem St.wide (h : St w B b5 A N wr X G l fs V) (hN : N ≤ N') : St w B b5 A N' wr X G l fs V := ⟨h.store, h.len, h.lows, h.box, h.boxO, h.boxB, h.low, h.roles, Nat.le_trans h.num hN, h.size⟩
/-- A row more at the list's end. -/
theorem list_step {i : TypeInfo} {r : Rw} {a : Option Addr} {n c : Nat} (qi : Try.prog.info? 34 = some i) (q0 : i.zero = some (.agg #[.int .i64 0, .slice none 0 0])) (q1 : i.size = 2) (q2 : i.bytes = 32) (h : ListP w G B v l) (hl : l.length ≤ 4194304) (hO : Out G w) (hB : B ≤ w.heap.size)
    (hb : Below w.heap.size w w3) (hu : OwnInts w3 (w.heap.size + 2) (.slice a n c) r.2) (ty : TypeId) :
    ∃ (v' : Value) (w4 : World), (Builtin.append_ #[29, 29] ty #[v, .slice (some ⟨w3.heap.size, 0, none⟩) 1 1]).run Try.prog (w3.alloc (.cells #[.int .i64 r.1, .slice a n c] 34)) = .ok v' w4 ∧ ListP w4 G B v' (l ++ [r]) ∧
      Kp (fun k => G k ≠ .out ∨ k < B) w w4 ∧ ∀ (k : Nat) (o : Obj), w.heap[k]? = some o → (∀ cs, o ≠ Obj.cells cs 34 (0, 0)) → w4.heap[k]? = some o := by
  obtain ⟨us, hF⟩ := h
  have hF3 := hF.tr (Tr.up (ex := fun _ => False) hb) (fun h => h)
  obtain ⟨v', w4, h1, h2, h3, h4⟩ := list_append qi q0 q1 q2 hF3 hl ty r.1 a n c rfl
  have hu' : OwnD w3 (fun k => G k = .out ∧ B ≤ k) (.slice a n c) r.2 := OwnD.of hu (fun k hk _ => ⟨hO k (by omega), by omega⟩)
  have hz3 := hb.size
  have hz4 := h3.size
  simp only [World.size_alloc] at hz4
  have keep : ∀ k, k < w.heap.size → some k ≠ v.ownBlock → w4.heap[k]? = w.heap[k]? := fun k hk hx =>
    (h3.block k (by simp; omega) hx).trans ((Below.heap_alloc _ _ _ (by omega)).trans (hb.block k hk))
  refine ⟨v', w4, h1, ⟨_, ListF.snoc (o := .cells #[.int .i64 r.1, .slice a n c] 34) hF3 (Below.refl _ _) hu' (by omega) (hO.up hz3) h2 h3 h4⟩, ⟨h3.os.trans hb.os, h3.tape.trans hb.tape, h3.output.trans hb.output, by omega, fun k hk hx => keep k hk (fun e => ?_)⟩, fun k o ho hn => ?_⟩
  · obtain ⟨t1, t2, _⟩ := hF.tag k e.symm
    rcases hx with hx | hx
    · exact hx t1
    · omega
  · have hk := (Array.getElem?_eq_some_iff.1 ho).1
    refine (keep k hk (fun e => ?_)).trans ho
    obtain ⟨_, _, _, cs, t4⟩ := hF.tag k e.symm
    rw [ho] at t4
    exact hn cs (Option.some.inj t4)
end
/-- The list stands where none but other blocks turn; what a block is for may be told anew. -/
theorem ListP.move {w w' : World} {G G2 : Nat → Rl} {B : Nat} {v : Value} {l : List Rw} (h : ListP w G B v l) (hk : Kp (fun k => G k = .out ∧ ∀ c f, w.heap[k]? ≠ some (Obj.cells c 24 f)) w w') (hG : ∀ k, k < w.heap.size → G k = .out → G2 k = .out) : ListP w' G2 B v l := by
  obtain ⟨us, h⟩ := h
  refine ⟨us, h.ul, fun j r u hj hu => ?_, fun k hk' => ?_, ?_⟩
  · obtain ⟨h1, h2⟩ := h.ids j r u hj hu
    refine ⟨ownsRow_kp h1 hk (fun k hk' => ⟨(h2 k hk').1, fun c f e => ?_⟩), fun k hk' => ⟨hG k (h1.lt k hk').2 (h2 k hk').1, (h2 k hk').2⟩⟩
    rcases h1.2 with ⟨h3, _⟩ | ⟨g, cap, cur, h3, _, h4, _⟩
    · rw [h3] at hk'; cases hk'
    · rw [h3] at hk'
      simp [Value.ownBlock] at hk'
      subst hk'
      rw [h4] at e
      simp at e
  · obtain ⟨h1, h2, h3, c, h4⟩ := h.tag k hk'
    exact ⟨hG k h3 h1, h2, Nat.lt_of_lt_of_le h3 hk.size, c, (hk.block k h3 ⟨h1, fun c' f e => by rw [h4] at e; simp at e⟩).trans h4⟩
  · have ht : ∀ k, v.ownBlock = some k → G k = .out ∧ ∀ c f, w.heap[k]? ≠ some (Obj.cells c 24 f) := fun k hk' => by
      obtain ⟨h1, _, _, c, h4⟩ := h.tag k hk'
      exact ⟨h1, fun c' f e => by rw [h4] at e; simp at e⟩
    rcases h.row with ho | ⟨g, hv, hc⟩
    · exact .inl (ownsRow_kp ho hk ht)
    · exact .inr ⟨g, hv, fun j u hu => (hk.cell (p := ⟨g, j, none⟩) (ht g (by rw [hv]; rfl)) (h.tag g (by rw [hv]; rfl)).2.2.1).trans (hc j u hu)⟩
theorem Kp.low1 {B : Nat} {w w' : World} (h : Kp (fun k => k < B) w w') (hB : B ≤ w.heap.size) : Below B w w' := ⟨h.os, h.tape, h.output, h.size, fun k hk => h.block k (by omega) hk⟩
/-- The law's list on the way. -/
def addTo (A : List Int) (l rs : List Rw) (j : Nat) : List Rw := if mayB A rs = true then add l (rs.take j) else l
theorem addTo_start (A : List Int) (l rs : List Rw) : addTo A l rs 0 = l := by unfold addTo; simp [add]
theorem addTo_end (A : List Int) (l rs : List Rw) : addTo A l rs rs.length = added A l rs := by unfold addTo added; rw [List.take_length]
theorem addTo_next {A : List Int} {l rs : List Rw} {j : Nat} {r : Rw} (h : rs[j]? = some r) : addTo A l rs (j + 1) = if mayB A rs = true ∧ r ∉ addTo A l rs j then addTo A l rs j ++ [r] else addTo A l rs j := by
  unfold addTo
  rw [List.take_add_one, h]
  by_cases h1 : mayB A rs = true
  · simp only [h1, if_true, true_and]
    show add l (rs.take j ++ [r]) = _
    rw [add_snoc]
    by_cases h2 : r ∈ add l (rs.take j) <;> simp [h2]
  · simp [h1]
theorem add_mem : ∀ {l rs : List Rw} {s : Rw}, s ∈ add l rs → s ∈ l ∨ s ∈ rs
  | l, [], s, h => .inl h
  | l, r :: rs, s, h => by
    simp only [add] at h
    split at h
    · rcases add_mem h with h | h
      · exact .inl h
      · exact .inr (List.mem_cons_of_mem _ h)
    · rcases add_mem h with h | h
      · rcases List.mem_append.1 h with h | h
        · exact .inl h
        · simp at h; subst h; exact .inr (by simp)
      · exact .inr (List.mem_cons_of_mem _ h)
theorem addTo_mem {A : List Int} {l rs : List Rw} {j : Nat} {s : Rw} (h : s ∈ addTo A l rs j) : s ∈ l ∨ s ∈ rs := by
  unfold addTo at h
  split at h
  · rcases add_mem h with h | h
    · exact .inl h
    · exact .inr (List.mem_of_mem_take h)
  · exact .inl h
theorem addTo_len (A : List Int) (l rs : List Rw) (j : Nat) : l.length ≤ (addTo A l rs j).length ∧ (addTo A l rs j).length ≤ l.length + rs.length := by
  unfold addTo
  split
  · have := add_len l (rs.take j)
    rw [List.length_take] at this
    omega
  · omega
theorem PutsIn.at2 {w w' : World} {g off cap : Nat} {ps : List Pt} (h : PutsIn w (.slice (some ⟨g, off, none⟩) ps.length cap) ps) (hb : Below w.heap.size w w') {j : Nat} {p : Pt} (hj : ps[j]? = some p) :
    ∃ u, w'.cell? ⟨g, off + j * 3, none⟩ = some (.int .i64 p.kind) ∧ w'.cell? ⟨g, off + j * 3 + 1, none⟩ = some u ∧ w'.cell? ⟨g, off + j * 3 + 2, none⟩ = some (.int .i64 p.num) ∧ RowsIn w All u p.rows := by
  obtain ⟨u, _, h2, _, h4⟩ := h.at hj
  obtain ⟨u', g1, g2, g3, _⟩ := (h.below hb).at hj
  have hl := h
  obtain ⟨a, c, e, hl⟩ := hl
  simp only [Value.slice.injEq] at e
  obtain ⟨rfl, _, rfl⟩ := e
  rcases hl with rfl | ⟨g', off', e, hl, _⟩
  · simp at hj
  · simp only [Option.some.injEq, Addr.mk.injEq, and_true] at e
    obtain ⟨rfl, rfl⟩ := e
    have := (hb.cell (p := ⟨g, off + j * 3 + 1, none⟩) hl).trans h2
    exact ⟨u, g1, this, g3, h4⟩
theorem ListP.in {w : World} {G : Nat → Rl} {B : Nat} {v : Value} {l : List Rw} (h : ListP w G B v l) : RowsIn w All v l := by
  obtain ⟨us, h⟩ := h
  exact h.in
theorem ListP.form {w : World} {G : Nat → Rl} {B : Nat} {v : Value} {l : List Rw} (h : ListP w G B v l) : ∃ a c, v = .slice a l.length c := by
  obtain ⟨a, c, e, _⟩ := h.in.form
  exact ⟨a, c, e⟩
theorem okRow_bare {n : Int} (h : I64 n) : okRow (n, []) := ⟨h, fun j => by simp [at', I64], by simp⟩
theorem RowIn.bare (w : World) (n : Int) : RowIn w All (.agg #[.int .i64 n, .slice none 0 0]) (n, []) := ⟨_, rfl, none, 0, rfl, fun _ => ⟨rfl, rfl⟩, .inl rfl⟩
/-- A list grows, whatever the law on append. -/
theorem wpList_append_run {ops : Array Oper} {rest : List Oper} {o : Oper} {a : Act} {Q : Exit → Act → World → Prop} (hgd : o.guard = none) (s x : Operand) (t : TypeId)
    (ho : o.op = .call { callee := .builtin .append, args := #[s, x], argTypes := #[t, t] }) (v u v' : Value) {w w' : World} (hs : a.eval s = v) (hx : a.eval x = u) (hr : (Builtin.append_ #[t, t] o.type #[v, u]).run Try.prog w = .ok v' w')
    (h : wpList Try.prog ops Q rest (a.put o.dst v') w') : wpList Try.prog ops Q (o :: rest) a w := by
  refine wpList_plain hgd fun K hK => ?_
  unfold Oper.wp execOp
  simp only [ho, resolve, invoke, builtin, Sem.run_bind, Sem.run_pure, Result.andThen_ok, List.map_toArray, List.map_cons, List.map_nil, hs, hx, hr]
  exact hK _ _ h
end Go.Proofs.Ytmkoejpdoeblkaa
