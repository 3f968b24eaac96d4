/-
  A net of memories in memory: which blocks are its own, and what each says; every block bears a tag (0: not the net's; 1: the net's, never written again; 2: the net itself; 2i+3, 2i+4: the memory number i and its row), so that no two of its rows share a block. No condition beyond those that each lemma states.
-/
import Derived.Test.YtlandkindbmbfaaK5
import Derived.Test.YtlandkindbmbfaaPlain9
import Derived.Maps.AppendAt
namespace Go.Proofs.Ytlandkindbmbfaa
open Go.RowKit Plain

def fitR (s : Shp) (r : Shp) : Bool := fitsB s r.pred r.cells
/-- The rows of a memory of the shape s. -/
def nums (s : Shp) (rs : List Shp) : List Int := idx (fitR s) rs
/-- The memories that take a row. -/
def took (ss : List Shp) (r : Shp) : List Int := idx (fun s => fitR s r) ss

def ptrs (ms : List Nat) : List Value := ms.map fun b => .pointer (some ⟨b, 0, none⟩)
theorem ptrs_length (ms : List Nat) : (ptrs ms).length = ms.length := List.length_map _
theorem ptrs_get {ms : List Nat} {i b : Nat} (h : ms[i]? = some b) : (ptrs ms)[i]? = some (.pointer (some ⟨b, 0, none⟩)) := by unfold ptrs; rw [List.getElem?_map, h]; rfl
theorem ptrs_snoc (ms : List Nat) (b : Nat) : ptrs (ms ++ [b]) = ptrs ms ++ [.pointer (some ⟨b, 0, none⟩)] := by simp [ptrs]

/-- A row lies as it lay where its block does. -/
theorem row_keep {w w' : World} {B n size : Nat} {e : TypeId} {v : Value} {xs : List Value} (h : w.ownsRow B e size v n xs) (hb : ∀ k, v.ownBlock = some k → w'.heap[k]? = w.heap[k]?) : w'.ownsRow B e size v n xs := by
  refine ⟨h.1, ?_⟩
  rcases h.2 with h2 | ⟨g, cap, cur, rfl, hB, hg, r⟩
  · exact .inl h2
  · exact .inr ⟨g, cap, cur, rfl, hB, (hb g rfl).trans hg, r⟩

/-- A test of the shape s, as alpha.test hands it back. -/
def FnIs (w : World) (G : Nat → Nat) (s : Shp) (fv : Value) : Prop :=
  ∃ (bs bc : Nat) (cv q : Value), fv = .func (.func 64) #[] #[.pointer (some ⟨bs, 0, none⟩), .pointer (some ⟨bc, 0, none⟩)] ∧ G bs = 1 ∧ G bc = 1 ∧
    w.heap[bs]? = some (.cells #[.int .i64 s.pred, q] 27 (0, 0)) ∧ w.heap[bc]? = some (.cells #[cv] 25 (0, 0)) ∧ OwnInts w 0 cv s.cells ∧ ∀ k, cv.ownBlock = some k → G k = 1

/-- The memory number i, of the shape s, with the rows l. -/
def MemIs (w : World) (G : Nat → Nat) (s : Shp) (i b : Nat) (l : List Int) : Prop :=
  G b = 2 * i + 3 ∧ ∃ fv rv, w.heap[b]? = some (.cells #[fv, rv, .slice none 0 0] 105 (0, 0)) ∧ FnIs w G s fv ∧ OwnInts w 0 rv l ∧ ∀ k, rv.ownBlock = some k → G k = 2 * i + 4

structure MNet (w : World) (G : Nat → Nat) (X : Nat) (mv : Value) (ms : List Nat) (ss : List Shp) (ls : Nat → List Int) (n : Nat) : Prop where
  zero : ∀ b, w.heap.size ≤ b → G b = 0
  tag : G X = 2
  net : w.heap[X]? = some (.cells #[mv, .int .i64 (n : Int)] 101 (0, 0))
  row : w.ownsRow 0 102 1 mv ss.length (ptrs ms)
  mtag : ∀ k, mv.ownBlock = some k → G k = 1
  mlen : ms.length = ss.length
  mem : ∀ (i b : Nat) (s : Shp), ss[i]? = some s → ms[i]? = some b → MemIs w G s i b (ls i)

section
variable {w w' w1 : World} {G G' : Nat → Nat} {X n i b : Nat} {mv : Value} {ms : List Nat} {ss : List Shp} {ls ls' : Nat → List Int} {s : Shp} {l l' : List Int} {fv rv rv' : Value}

theorem FnIs.keep (h : FnIs w G s fv) (hb : ∀ k, G k = 1 → w'.heap[k]? = w.heap[k]? ∧ G' k = 1) : FnIs w' G' s fv := by
  obtain ⟨bs, bc, cv, q, rfl, h1, h2, h3, h4, h5, h6⟩ := h
  exact ⟨bs, bc, cv, q, rfl, (hb bs h1).2, (hb bc h2).2, (hb bs h1).1.trans h3, (hb bc h2).1.trans h4, row_keep h5 (fun k hk => (hb k (h6 k hk)).1), fun k hk => (hb k (h6 k hk)).2⟩
theorem MemIs.keep (h : MemIs w G s i b l) (hb : ∀ k, G k = 1 ∨ G k = 2 * i + 3 ∨ G k = 2 * i + 4 → w'.heap[k]? = w.heap[k]? ∧ G' k = G k) : MemIs w' G' s i b l := by
  obtain ⟨h0, fv, rv, h1, h2, h3, h4⟩ := h
  have eb := hb b (.inr (.inl h0))
  exact ⟨eb.2.trans h0, fv, rv, eb.1.trans h1, h2.keep (fun k hk => ⟨(hb k (.inl hk)).1, (hb k (.inl hk)).2.trans hk⟩), row_keep h3 (fun k hk => (hb k (.inr (.inr (h4 k hk)))).1), fun k hk => ((hb k (.inr (.inr (h4 k hk)))).2).trans (h4 k hk)⟩
theorem MNet.lt (h : MNet w G X mv ms ss ls n) {k : Nat} (hk : G k ≠ 0) : k < w.heap.size := by
  rcases Nat.lt_or_ge k w.heap.size with h1 | h1
  · exact h1
  · exact absurd (h.zero k h1) hk
/-- What is not the net's may turn. -/
theorem MNet.keep (h : MNet w G X mv ms ss ls n) (hz : w.heap.size ≤ w'.heap.size) (hb : ∀ k, G k ≠ 0 → w'.heap[k]? = w.heap[k]?) : MNet w' G X mv ms ss ls n :=
  ⟨fun k hk => h.zero k (by omega), h.tag, (hb X (by rw [h.tag]; decide)).trans h.net, row_keep h.row (fun k hk => hb k (by rw [h.mtag k hk]; decide)), h.mtag, h.mlen,
    fun i b s h1 h2 => (h.mem i b s h1 h2).keep (fun k hk => ⟨hb k (by rcases hk with hk | hk | hk <;> omega), rfl⟩)⟩
theorem MNet.up (h : MNet w G X mv ms ss ls n) (hb : Below w.heap.size w w') : MNet w' G X mv ms ss ls n := h.keep hb.size (fun k hk => hb.block k (h.lt hk))
theorem MNet.grown (h : MNet w G X mv ms ss ls n) {row : Option Nat} (hg : w.grownBy w' row) (hr : ∀ k, row = some k → G k = 0) : MNet w' G X mv ms ss ls n :=
  h.keep hg.size (fun k hk => hg.block k (h.lt hk) (fun e => hk (hr k e.symm)))
theorem MNet.congr (h : MNet w G X mv ms ss ls n) (he : ∀ i, i < ss.length → ls i = ls' i) : MNet w G X mv ms ss ls' n :=
  ⟨h.zero, h.tag, h.net, h.row, h.mtag, h.mlen, fun i b s h1 h2 => by rw [← he i (List.getElem?_eq_some_iff.1 h1).1]; exact h.mem i b s h1 h2⟩
theorem MNet.same (h : MNet w G X mv ms ss ls n) (e : w'.heap = w.heap) : MNet w' G X mv ms ss ls n := h.keep (by rw [e]; exact Nat.le_refl _) (fun k _ => by rw [e])
theorem MNet.alloc (h : MNet w G X mv ms ss ls n) (o : Obj) : MNet (w.alloc o) G X mv ms ss ls n := h.up (up_alloc w o)
theorem MNet.c0 (h : MNet w G X mv ms ss ls n) : w.cell? ⟨X, 0, none⟩ = some mv := by have := h.net; simp only [World.cell?, this]; rfl
theorem MNet.c1 (h : MNet w G X mv ms ss ls n) : w.cell? ⟨X, 1, none⟩ = some (.int .i64 (n : Int)) := by have := h.net; simp only [World.cell?, this]; rfl
theorem MNet.f0 (h : MNet w G X mv ms ss ls n) : w.frozen? ⟨X, 0, none⟩ = false := by have := h.net; simp only [World.frozen?, this]; rfl
theorem MNet.f1 (h : MNet w G X mv ms ss ls n) : w.frozen? ⟨X, 1, none⟩ = false := by have := h.net; simp only [World.frozen?, this]; rfl
theorem MNet.form (h : MNet w G X mv ms ss ls n) : ∃ a c, mv = .slice a ss.length c ∧ (ss ≠ [] → ∃ g, a = some ⟨g, 0, none⟩) := by
  rcases Joins.ownsRow_forms h.row with ⟨rfl, h0⟩ | ⟨g, cap, rfl⟩
  · exact ⟨none, 0, by rw [h0], fun hn => absurd (List.length_eq_zero_iff.1 h0) hn⟩
  · exact ⟨some ⟨g, 0, none⟩, cap, rfl, fun _ => ⟨g, rfl⟩⟩
/-- The pointer number i. -/
theorem MNet.ptr {g c m : Nat} (h : MNet w G X (.slice (some ⟨g, 0, none⟩) m c) ms ss ls n) (hm : ms[i]? = some b) : w.cell? ⟨g, i, none⟩ = some (.pointer (some ⟨b, 0, none⟩)) := by
  have hi : i < ms.length := (List.getElem?_eq_some_iff.1 hm).1
  have e : m = ss.length := by
    rcases Joins.ownsRow_forms h.row with ⟨h1, _⟩ | ⟨g', cap, h1⟩
    · cases h1
    · simp only [Value.slice.injEq] at h1; exact h1.2.1
  have hr := h.row
  rw [e] at hr
  rw [World.ownsRow.cellAt hr i (by rw [Nat.mul_one, ← h.mlen]; exact hi)]
  exact ptrs_get hm
theorem MemIs.parts (h : MemIs w G s i b l) : ∃ fv rv, w.cell? ⟨b, 0, none⟩ = some fv ∧ w.cell? ⟨b, 1, none⟩ = some rv ∧ w.cell? ⟨b, 2, none⟩ = some (.slice none 0 0) ∧ w.frozen? ⟨b, 1, none⟩ = false ∧ FnIs w G s fv ∧ OwnInts w 0 rv l ∧ (∀ k, rv.ownBlock = some k → G k = 2 * i + 4) ∧
    w.heap[b]? = some (.cells #[fv, rv, .slice none 0 0] 105 (0, 0)) := by
  obtain ⟨h0, fv, rv, h1, h2, h3, h4⟩ := h
  exact ⟨fv, rv, by simp only [World.cell?, h1]; rfl, by simp only [World.cell?, h1]; rfl, by simp only [World.cell?, h1]; rfl, by simp only [World.frozen?, h1]; rfl, h2, h3, h4, h1⟩
theorem FnIs.parts (h : FnIs w G s fv) : ∃ (bs bc : Nat) (cv : Value), fv = .func (.func 64) #[] #[.pointer (some ⟨bs, 0, none⟩), .pointer (some ⟨bc, 0, none⟩)] ∧
    w.cell? ⟨bs, 0, none⟩ = some (.int .i64 s.pred) ∧ w.cell? ⟨bc, 0, none⟩ = some cv ∧ IntsAt w w.heap.size cv s.cells := by
  obtain ⟨bs, bc, cv, q, rfl, h1, h2, h3, h4, h5, h6⟩ := h
  exact ⟨bs, bc, cv, rfl, by simp only [World.cell?, h3]; rfl, by simp only [World.cell?, h4]; rfl, OwnInts.at h5⟩

/-- The count turns. -/
theorem MNet.count (h : MNet w G X mv ms ss ls n) (m : Nat) : MNet (w.setCell ⟨X, 1, none⟩ (.int .i64 (m : Int))) G X mv ms ss ls m := by
  have hb : ∀ k, G k ≠ 2 → (w.setCell ⟨X, 1, none⟩ (.int .i64 (m : Int))).heap[k]? = w.heap[k]? := fun k hk => Below.heap_setCell _ _ _ _ (fun e => hk (by rw [e]; exact h.tag))
  refine ⟨fun k hk => h.zero k (by simpa [World.setCell] using hk), h.tag, ?_, row_keep h.row (fun k hk => hb k (by rw [h.mtag k hk]; decide)), h.mtag, h.mlen,
    fun i b s h1 h2 => (h.mem i b s h1 h2).keep (fun k hk => ⟨hb k (by rcases hk with hk | hk | hk <;> omega), rfl⟩)⟩
  rw [block_setCell h.net]
  rfl

/-- The rows of the memory number i turn: in their own block or in a new one. -/
theorem MNet.put (h : MNet w G X mv ms ss ls n) (hi : ss[i]? = some s) (hm : ms[i]? = some b) (hrb : w.heap[b]? = some (.cells #[fv, rv, .slice none 0 0] 105 (0, 0))) (hf : FnIs w G s fv)
    (hsame : ∀ k, G k ≠ 0 → G k ≠ 2 * i + 4 → w1.heap[k]? = w.heap[k]?) (hG : ∀ k, G k ≠ 0 → G' k = G k) (hzero : ∀ k, w1.heap.size ≤ k → G' k = 0)
    (hown : OwnInts w1 0 rv' l') (htag : ∀ k, rv'.ownBlock = some k → G' k = 2 * i + 4) : MNet (w1.setCell ⟨b, 1, none⟩ rv') G' X mv ms ss (fun j => if j = i then l' else ls j) n := by
  have hil : i < ss.length := (List.getElem?_eq_some_iff.1 hi).1
  have gb : G b = 2 * i + 3 := (h.mem i b s hi hm).1
  have gbn : G' b = 2 * i + 3 := (hG b (by omega)).trans gb
  have hset : ∀ k, G k ≠ 0 → G k ≠ 2 * i + 4 → G k ≠ 2 * i + 3 → (w1.setCell ⟨b, 1, none⟩ rv').heap[k]? = w.heap[k]? := fun k h0 h1 h2 =>
    (Below.heap_setCell _ _ _ _ (fun e => h2 (by rw [e]; exact gb))).trans (hsame k h0 h1)
  have hz2 : (w1.setCell ⟨b, 1, none⟩ rv').heap.size = w1.heap.size := by simp [World.setCell]
  refine ⟨fun k hk => hzero k (by omega), (hG X (by rw [h.tag]; decide)).trans h.tag, (hset X (by rw [h.tag]; decide) (by rw [h.tag]; omega) (by rw [h.tag]; omega)).trans h.net,
    row_keep h.row (fun k hk => hset k (by rw [h.mtag k hk]; decide) (by rw [h.mtag k hk]; omega) (by rw [h.mtag k hk]; omega)), fun k hk => (hG k (by rw [h.mtag k hk]; decide)).trans (h.mtag k hk), h.mlen, ?_⟩
  intro j c t hj hc
  show MemIs _ _ _ _ _ (if j = i then l' else ls j)
  by_cases e : j = i
  · subst e
    rw [hi] at hj; obtain rfl := Option.some.inj hj
    rw [hm] at hc; obtain rfl := Option.some.inj hc
    rw [if_pos rfl]
    have hb1 : w1.heap[b]? = some (.cells #[fv, rv, .slice none 0 0] 105 (0, 0)) := (hsame b (by omega) (by omega)).trans hrb
    refine ⟨gbn, fv, rv', ?_, hf.keep (fun k hk => ⟨hset k (by omega) (by omega) (by omega), (hG k (by omega)).trans hk⟩), ?_, htag⟩
    · rw [block_setCell hb1]; rfl
    · refine row_keep hown (fun k hk => Below.heap_setCell _ _ _ _ (fun e => ?_))
      have := htag k hk
      rw [e] at this
      simp only at this
      omega
  · rw [if_neg e]
    exact (h.mem j c t hj hc).keep (fun k hk => ⟨hset k (by rcases hk with hk | hk | hk <;> omega) (by rcases hk with hk | hk | hk <;> omega) (by rcases hk with hk | hk | hk <;> omega), hG k (by rcases hk with hk | hk | hk <;> omega)⟩)

/-- From w to w' only the net's own blocks that are written may have turned. -/
structure Turned (G : Nat → Nat) (w w' : World) : Prop where
  os : w'.os = w.os
  tape : w'.tape = w.tape
  output : w'.output = w.output
  size : w.heap.size ≤ w'.heap.size
  block : ∀ k, k < w.heap.size → G k < 2 → w'.heap[k]? = w.heap[k]?
theorem Turned.refl (G : Nat → Nat) (w : World) : Turned G w w := ⟨rfl, rfl, rfl, Nat.le_refl _, fun _ _ _ => rfl⟩
theorem Turned.trans (h : Turned G w w1) (k : Turned G' w1 w') (hG : ∀ b, b < w.heap.size → G' b = G b) : Turned G w w' :=
  ⟨k.os.trans h.os, k.tape.trans h.tape, k.output.trans h.output, Nat.le_trans h.size k.size, fun i hi hg => (k.block i (Nat.lt_of_lt_of_le hi h.size) (by rw [hG i hi]; exact hg)).trans (h.block i hi hg)⟩
theorem Turned.same (h : Turned G w w1) (e : w'.heap = w1.heap) (eo : w'.os = w1.os) (et : w'.tape = w1.tape) (ep : w'.output = w1.output) : Turned G w w' :=
  ⟨eo.trans h.os, et.trans h.tape, ep.trans h.output, by rw [e]; exact h.size, fun k hk hg => by rw [e]; exact h.block k hk hg⟩
theorem Turned.of_below (h : Below w.heap.size w w') : Turned G w w' := ⟨h.os, h.tape, h.output, h.size, fun k hk _ => h.block k hk⟩
theorem Turned.of_grown {row : Option Nat} (h : w.grownBy w' row) (hr : ∀ k, row = some k → w.heap.size ≤ k ∨ 2 ≤ G k) : Turned G w w' :=
  ⟨h.os, h.tape, h.output, h.size, fun k hk hg => h.block k hk (fun e => by have := hr k e.symm; omega)⟩
theorem Turned.of_set {a : Addr} {u : Value} (h : 2 ≤ G a.block) : Turned G w (w.setCell a u) :=
  ⟨rfl, rfl, rfl, by simp [World.setCell], fun k hk hg => Below.heap_setCell _ _ _ _ (fun e => by rw [e] at hg; omega)⟩
theorem Turned.below {B : Nat} (h : Turned G w w') (hB : B ≤ w.heap.size) (hG : ∀ k, k < B → G k < 2) : Below B w w' := ⟨h.os, h.tape, h.output, h.size, fun k hk => h.block k (by omega) (hG k hk)⟩
end

end Go.Proofs.Ytlandkindbmbfaa
