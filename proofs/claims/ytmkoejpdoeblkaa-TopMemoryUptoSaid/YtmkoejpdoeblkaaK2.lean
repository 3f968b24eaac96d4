/-
  Slices of ints and of rows in memory, read and owned, within a set of blocks. No condition beyond those that each lemma states.
-/
import Derived.Test.YtmkoejpdoeblkaaK1
import Derived.Test.YtmkoejpdoeblkaaP1
import Derived.WalkKit
import Derived.WalkLawsBesides
import Derived.WalkSpells
import Derived.Lib.SmallJoins
import Derived.Deep.QuietTactic
import Derived.BigQuiet
import Derived.Deep.Onto
import Derived.Deep.AppendLies
import Derived.Deep.RegionHeld3
import Derived.Deep.RegionLaw
import Derived.Deep.CutRange
namespace Go.Proofs.Ytmkoejpdoeblkaa
open Go.RowKit Pl

def lits (l : List Int) : List Value := l.map fun d => Value.int .i64 d
theorem lits_length (l : List Int) : (lits l).length = l.length := List.length_map _
theorem lits_snoc (l : List Int) (d : Int) : lits (l ++ [d]) = lits l ++ [.int .i64 d] := by simp [lits]
theorem lits_get (l : List Int) (i : Nat) (h : i < l.length) : (lits l)[i]? = some (.int .i64 (at' l i)) := by
  simp [lits, at_eq h, List.getElem?_eq_getElem h]
theorem Try.info3 : (Try.prog.info? 3).map (fun i => (i.zero, i.size, i.bytes)) = some (some (.int .i64 0), 1, 8) := by kernel_rfl
theorem one_i64 (x : Int) : ∀ u ∈ [Value.int .i64 x], u.oneCell' = true := by intro u hu; simp at hu; subst hu; rfl
theorem lits_one (l : List Int) : ∀ u ∈ lits l, u.oneCell' = true := by intro u hu; simp [lits] at hu; obtain ⟨d, _, rfl⟩ := hu; rfl
theorem addr_add (g off k : Nat) : (⟨g, off, none⟩ : Addr).add k = ⟨g, off + k, none⟩ := by
  unfold Addr.add; split
  · rename_i h; subst h; rfl
  · rfl
def I64s (l : List Int) : Prop := ∀ j, I64 (at' l j)
theorem I64s.of {l : List Int} (h : ∀ x ∈ l, I64 x) : I64s l := fun j => by
  by_cases hj : j < l.length
  · rw [at_eq hj]; exact h _ (List.getElem_mem hj)
  · rw [at_out (by omega)]; unfold I64; omega

/-- Of what there was, the blocks in D stand. -/
structure Kp (D : Nat → Prop) (w w' : World) : Prop where
  os : w'.os = w.os
  tape : w'.tape = w.tape
  output : w'.output = w.output
  size : w.heap.size ≤ w'.heap.size
  block : ∀ k, k < w.heap.size → D k → w'.heap[k]? = w.heap[k]?
section
variable {D D' : Nat → Prop} {w w' w2 : World}
theorem Kp.refl (D : Nat → Prop) (w : World) : Kp D w w := ⟨rfl, rfl, rfl, Nat.le_refl _, fun _ _ _ => rfl⟩
theorem Kp.trans (h : Kp D w w') (k : Kp D w' w2) : Kp D w w2 :=
  ⟨k.os.trans h.os, k.tape.trans h.tape, k.output.trans h.output, Nat.le_trans h.size k.size, fun i hi hx => (k.block i (Nat.lt_of_lt_of_le hi h.size) hx).trans (h.block i hi hx)⟩
theorem Kp.of (h : Below w.heap.size w w') : Kp D w w' := ⟨h.os, h.tape, h.output, h.size, fun k hk _ => h.block k hk⟩
theorem Kp.up (h : Kp D w w') (hD : ∀ k, k < w.heap.size → D k) : Below w.heap.size w w' := ⟨h.os, h.tape, h.output, h.size, fun k hk => h.block k hk (hD k hk)⟩
theorem Kp.sub (h : Kp D w w') (hD : ∀ k, k < w.heap.size → D' k → D k) : Kp D' w w' := ⟨h.os, h.tape, h.output, h.size, fun k hk hk' => h.block k hk (hD k hk hk')⟩
theorem Kp.drew (h : Kp D w w') : Kp D w w'.drew := ⟨h.os, h.tape, h.output, h.size, h.block⟩
theorem Kp.drewN (h : Kp D w w') (n : Nat) : Kp D w (w'.drewN n) := ⟨h.os, h.tape, h.output, h.size, h.block⟩
theorem Kp.alloc (h : Kp D w w') (o : Obj) : Kp D w (w'.alloc o) :=
  h.trans ⟨rfl, rfl, rfl, by simp, fun k hk _ => Below.heap_alloc _ _ _ hk⟩
theorem Kp.set (h : Kp D w w') {p : Addr} (hp : D p.block → w.heap.size ≤ p.block) (u : Value) : Kp D w (w'.setCell p u) :=
  ⟨h.os, h.tape, h.output, by simp [World.setCell]; exact h.size, fun k hk hx => (Below.heap_setCell _ _ _ _ (fun e => by subst e; have := hp hx; omega)).trans (h.block k hk hx)⟩
theorem Kp.grown {row : Option Nat} (h : Kp D w w') (hg : w'.grownBy w2 row) (hr : ∀ k, row = some k → D k → w.heap.size ≤ k) : Kp D w w2 :=
  ⟨hg.os.trans h.os, hg.tape.trans h.tape, hg.output.trans h.output, Nat.le_trans h.size hg.size, fun k hk hx => (hg.block k (Nat.lt_of_lt_of_le hk h.size) (fun e => by have := hr k e.symm hx; omega)).trans (h.block k hk hx)⟩
theorem Kp.cell (h : Kp D w w') {p : Addr} (hp : D p.block) (hl : p.block < w.heap.size) : w'.cell? p = w.cell? p := World.cell?_of_block (h.block _ hl hp)
end
theorem up_alloc (w : World) (o : Obj) : Below w.heap.size w (w.alloc o) := (Below.refl _ _).alloc (Nat.le_refl _) o

/-- A slice value that reads as the ints l, out of a block in D. -/
def IntsIn (w : World) (D : Nat → Prop) (v : Value) (l : List Int) : Prop :=
  ∃ (a : Option Addr) (cap : Nat), v = .slice a l.length cap ∧ (a = none → l = [] ∧ cap = 0) ∧
    (l = [] ∨ ∃ g off, a = some ⟨g, off, none⟩ ∧ D g ∧ g < w.heap.size ∧ ∀ j, j < l.length → w.cell? ⟨g, off + j, none⟩ = some (.int .i64 (at' l j)))
def All : Nat → Prop := fun _ => True
section
variable {D D' : Nat → Prop} {w w' : World} {v : Value} {l : List Int}
theorem IntsIn.kp (h : IntsIn w D v l) (hb : Kp D w w') : IntsIn w' D v l := by
  obtain ⟨a, cap, rfl, hn, h⟩ := h
  refine ⟨a, cap, rfl, hn, ?_⟩
  rcases h with rfl | ⟨g, off, rfl, hg, hl, hc⟩
  · exact .inl rfl
  · exact .inr ⟨g, off, rfl, hg, Nat.lt_of_lt_of_le hl hb.size, fun j hj => (hb.cell (p := ⟨g, off + j, none⟩) hg hl).trans (hc j hj)⟩
theorem IntsIn.sub (h : IntsIn w D v l) (hD : ∀ k, k < w.heap.size → D k → D' k) : IntsIn w D' v l := by
  obtain ⟨a, cap, rfl, hn, h⟩ := h
  refine ⟨a, cap, rfl, hn, ?_⟩
  rcases h with rfl | ⟨g, off, rfl, hg, hl, hc⟩
  · exact .inl rfl
  · exact .inr ⟨g, off, rfl, hD _ hl hg, hl, hc⟩
theorem IntsIn.all (h : IntsIn w D v l) : IntsIn w All v l := h.sub (fun _ _ _ => trivial)
theorem IntsIn.below (h : IntsIn w D v l) (hb : Below w.heap.size w w') : IntsIn w' D v l := h.kp (Kp.of hb)
theorem IntsIn.alloc (h : IntsIn w D v l) (o : Obj) : IntsIn (w.alloc o) D v l := h.below (up_alloc w o)
theorem IntsIn.heap (h : IntsIn w D v l) (e : w'.heap = w.heap) : IntsIn w' D v l := by
  obtain ⟨a, cap, rfl, hn, h⟩ := h
  refine ⟨a, cap, rfl, hn, ?_⟩
  rcases h with rfl | ⟨g, off, rfl, hg, hl, hc⟩
  · exact .inl rfl
  · exact .inr ⟨g, off, rfl, hg, by rw [e]; exact hl, fun j hj => (World.cell?_of_block (by rw [e])).trans (hc j hj)⟩
theorem IntsIn.form (h : IntsIn w D v l) : ∃ a cap, v = .slice a l.length cap ∧ (l ≠ [] → ∃ g off, a = some ⟨g, off, none⟩) := by
  obtain ⟨a, cap, rfl, hn, h⟩ := h
  refine ⟨a, cap, rfl, fun hne => ?_⟩
  rcases h with rfl | ⟨g, off, rfl, _⟩
  · exact absurd rfl hne
  · exact ⟨g, off, rfl⟩
theorem IntsIn.at {g off cap : Nat} (h : IntsIn w D (.slice (some ⟨g, off, none⟩) l.length cap) l) {j : Nat} (hj : j < l.length) : w.cell? ⟨g, off + j, none⟩ = some (.int .i64 (at' l j)) := by
  obtain ⟨a, c, e, hn, h⟩ := h
  simp only [Value.slice.injEq] at e
  obtain ⟨rfl, _, rfl⟩ := e
  rcases h with rfl | ⟨g', off', e, hg, hl, hc⟩
  · simp at hj
  · simp only [Option.some.injEq, Addr.mk.injEq, and_true] at e
    obtain ⟨rfl, rfl⟩ := e
    exact hc j hj
theorem IntsIn.news {ad : Addr} {n c : Nat} (h : IntsIn w D (.slice (some ad) n c) l) : ∀ j u, (lits l)[j]? = some u → w.cell? (ad.add j) = some u := by
  intro j u hju
  obtain ⟨a, cap, e, hn, h⟩ := h
  simp only [Value.slice.injEq] at e
  obtain ⟨rfl, rfl, rfl⟩ := e
  have hj : j < l.length := by
    rw [← lits_length]; exact (List.getElem?_eq_some_iff.1 hju).1
  rcases h with rfl | ⟨g, off, h1, _, _, hc⟩
  · simp at hj
  · obtain rfl := Option.some.inj h1
    rw [addr_add, hc j hj, ← hju, lits_get l j hj]

/-- A row of ints of the call's own, from block B on. -/
def OwnInts (w : World) (B : Nat) (v : Value) (l : List Int) : Prop := w.ownsRow B 3 1 v l.length (lits l)
theorem OwnInts.nil (w : World) (B : Nat) : OwnInts w B (.slice none 0 0) [] := World.ownsRow_nil _ _ _ _
theorem OwnInts.in {B : Nat} (h : OwnInts w B v l) (hD : ∀ k, v.ownBlock = some k → D k) : IntsIn w D v l := by
  rcases Joins.ownsRow_forms h with ⟨rfl, h0⟩ | ⟨g, cap, rfl⟩
  · obtain rfl := List.length_eq_zero_iff.1 h0
    exact ⟨none, 0, rfl, fun _ => ⟨rfl, rfl⟩, .inl rfl⟩
  · refine ⟨_, cap, rfl, (fun e => by cases e), .inr ⟨g, 0, rfl, hD g rfl, (h.lt g rfl).2, fun j hj => ?_⟩⟩
    rw [Nat.zero_add, World.ownsRow.cellAt h j (by omega)]; exact lits_get l j hj
theorem OwnInts.below {B : Nat} (h : OwnInts w B v l) (hb : Below w.heap.size w w') : OwnInts w' B v l := by
  obtain ⟨h1, h2⟩ := h
  refine ⟨h1, ?_⟩
  rcases h2 with h2 | ⟨g, cap, cur, hv, hg, hh, r⟩
  · exact .inl h2
  · exact .inr ⟨g, cap, cur, hv, hg, by rw [hb.block g (Array.getElem?_eq_some_iff.1 hh).1]; exact hh, r⟩
end

/-! ### Rows -/
/-- A row's value: its ids out of a block in D. -/
def RowIn (w : World) (D : Nat → Prop) (v : Value) (r : Rw) : Prop := ∃ u, v = .agg #[.int .i64 r.1, u] ∧ IntsIn w D u r.2
def okRow (r : Rw) : Prop := I64 r.1 ∧ I64s r.2 ∧ r.2.length ≤ 1048576
def RowsIn (w : World) (D : Nat → Prop) (v : Value) (l : List Rw) : Prop :=
  ∃ (a : Option Addr) (cap : Nat), v = .slice a l.length cap ∧ (l = [] ∨ ∃ g off, a = some ⟨g, off, none⟩ ∧ D g ∧ g < w.heap.size ∧
    ∀ (j : Nat) (r : Rw), l[j]? = some r → ∃ u, w.cell? ⟨g, off + j * 2, none⟩ = some (.int .i64 r.1) ∧ w.cell? ⟨g, off + j * 2 + 1, none⟩ = some u ∧ IntsIn w D u r.2)
section
variable {D D' : Nat → Prop} {w w' : World} {v : Value} {l : List Rw}
theorem RowsIn.kp (h : RowsIn w D v l) (hb : Kp D w w') : RowsIn w' D v l := by
  obtain ⟨a, cap, rfl, h⟩ := h
  refine ⟨a, cap, rfl, ?_⟩
  rcases h with rfl | ⟨g, off, rfl, hg, hl, hc⟩
  · exact .inl rfl
  · refine .inr ⟨g, off, rfl, hg, Nat.lt_of_lt_of_le hl hb.size, fun j r hj => ?_⟩
    obtain ⟨u, h1, h2, h3⟩ := hc j r hj
    exact ⟨u, (hb.cell (p := ⟨g, _, none⟩) hg hl).trans h1, (hb.cell (p := ⟨g, _, none⟩) hg hl).trans h2, h3.kp hb⟩
theorem RowsIn.sub (h : RowsIn w D v l) (hD : ∀ k, k < w.heap.size → D k → D' k) : RowsIn w D' v l := by
  obtain ⟨a, cap, rfl, h⟩ := h
  refine ⟨a, cap, rfl, ?_⟩
  rcases h with rfl | ⟨g, off, rfl, hg, hl, hc⟩
  · exact .inl rfl
  · refine .inr ⟨g, off, rfl, hD g hl hg, hl, fun j r hj => ?_⟩
    obtain ⟨u, h1, h2, h3⟩ := hc j r hj
    exact ⟨u, h1, h2, h3.sub hD⟩
theorem RowsIn.all (h : RowsIn w D v l) : RowsIn w All v l := h.sub (fun _ _ _ => trivial)
theorem RowsIn.below (h : RowsIn w D v l) (hb : Below w.heap.size w w') : RowsIn w' D v l := h.kp (Kp.of hb)
theorem RowsIn.alloc (h : RowsIn w D v l) (o : Obj) : RowsIn (w.alloc o) D v l := h.below (up_alloc w o)
theorem RowsIn.heap (h : RowsIn w D v l) (e : w'.heap = w.heap) : RowsIn w' D v l := by
  obtain ⟨a, cap, rfl, h⟩ := h
  refine ⟨a, cap, rfl, ?_⟩
  rcases h with rfl | ⟨g, off, rfl, hg, hl, hc⟩
  · exact .inl rfl
  · refine .inr ⟨g, off, rfl, hg, by rw [e]; exact hl, fun j r hj => ?_⟩
    obtain ⟨u, h1, h2, h3⟩ := hc j r hj
    exact ⟨u, (World.cell?_of_block (by rw [e])).trans h1, (World.cell?_of_block (by rw [e])).trans h2, h3.heap e⟩
theorem RowsIn.form (h : RowsIn w D v l) : ∃ a cap, v = .slice a l.length cap ∧ (l ≠ [] → ∃ g off, a = some ⟨g, off, none⟩) := by
  obtain ⟨a, cap, rfl, h⟩ := h
  refine ⟨a, cap, rfl, fun hne => ?_⟩
  rcases h with rfl | ⟨g, off, rfl, _⟩
  · exact absurd rfl hne
  · exact ⟨g, off, rfl⟩
theorem RowsIn.at {g off cap : Nat} (h : RowsIn w D (.slice (some ⟨g, off, none⟩) l.length cap) l) {j : Nat} {r : Rw} (hj : l[j]? = some r) :
    ∃ u, w.cell? ⟨g, off + j * 2, none⟩ = some (.int .i64 r.1) ∧ w.cell? ⟨g, off + j * 2 + 1, none⟩ = some u ∧ IntsIn w D u r.2 := by
  obtain ⟨a, c, e, h⟩ := h
  simp only [Value.slice.injEq] at e
  obtain ⟨rfl, _, rfl⟩ := e
  rcases h with rfl | ⟨g', off', e, hg, hl, hc⟩
  · simp at hj
  · simp only [Option.some.injEq, Addr.mk.injEq, and_true] at e
    obtain ⟨rfl, rfl⟩ := e
    exact hc j r hj
theorem RowsIn.blk {g off cap : Nat} (h : RowsIn w D (.slice (some ⟨g, off, none⟩) l.length cap) l) (hl : l ≠ []) : D g ∧ g < w.heap.size := by
  obtain ⟨a, c, e, h⟩ := h
  simp only [Value.slice.injEq] at e
  obtain ⟨rfl, _, rfl⟩ := e
  rcases h with rfl | ⟨g', off', e, hg, hl, hc⟩
  · exact absurd rfl hl
  · simp only [Option.some.injEq, Addr.mk.injEq, and_true] at e
    obtain ⟨rfl, rfl⟩ := e
    exact ⟨hg, hl⟩
theorem RowIn.kp {r : Rw} (h : RowIn w D v r) (hb : Kp D w w') : RowIn w' D v r := by
  obtain ⟨u, rfl, h⟩ := h; exact ⟨u, rfl, h.kp hb⟩

/-- The cells of rows whose ids' slices are us. -/
def flat : List Rw → List Value → List Value
  | s :: ss, u :: vs => .int .i64 s.1 :: u :: flat ss vs
  | _, _ => []
theorem flat_length : ∀ (ss : List Rw) (vs : List Value), vs.length = ss.length → (flat ss vs).length = ss.length * 2
  | [], [], _ => rfl
  | s :: ss, u :: vs, h => by
    have := flat_length ss vs (by simpa using h)
    simp [flat, this]; omega
  | [], _ :: _, h => by simp at h
  | _ :: _, [], h => by simp at h
theorem flat_snoc : ∀ (ss : List Rw) (vs : List Value) (s : Rw) (u : Value), vs.length = ss.length → flat (ss ++ [s]) (vs ++ [u]) = flat ss vs ++ [.int .i64 s.1, u]
  | [], [], _, _, _ => rfl
  | t :: ss, x :: vs, s, u, h => by
    have := flat_snoc ss vs s u (by simpa using h)
    simp [flat, this]
  | [], _ :: _, _, _, h => by simp at h
  | _ :: _, [], _, _, h => by simp at h
theorem flat_get : ∀ (ss : List Rw) (vs : List Value) (j : Nat) (s : Rw) (u : Value), ss[j]? = some s → vs[j]? = some u → (flat ss vs)[j * 2]? = some (.int .i64 s.1) ∧ (flat ss vs)[j * 2 + 1]? = some u
  | [], _, _, _, _, h, _ => by simp at h
  | _ :: _, [], _, _, _, _, h => by simp at h
  | t :: ss, x :: vs, 0, s, u, h1, h2 => by simp at h1 h2; subst h1 h2; exact ⟨rfl, rfl⟩
  | t :: ss, x :: vs, j + 1, s, u, h1, h2 => by
    have := flat_get ss vs j s u (by simpa using h1) (by simpa using h2)
    rw [show (j + 1) * 2 = j * 2 + 1 + 1 by omega]
    exact this
theorem ownsRow_kp {v : Value} {B e size n : Nat} {xs : List Value} (h : w.ownsRow B e size v n xs) (hb : Kp D w w') (hD : ∀ k, v.ownBlock = some k → D k) : w'.ownsRow B e size v n xs := by
  obtain ⟨h1, h2⟩ := h
  refine ⟨h1, ?_⟩
  rcases h2 with h2 | ⟨g, cap, cur, hv, hg, hh, r⟩
  · exact .inl h2
  · exact .inr ⟨g, cap, cur, hv, hg, by rw [hb.block g (Array.getElem?_eq_some_iff.1 hh).1 (hD g (by rw [hv]; rfl))]; exact hh, r⟩
theorem ownsRow_low {B B' : Nat} {e size n : Nat} {v : Value} {xs : List Value} (h : w.ownsRow B e size v n xs) (hB : B' ≤ B) : w.ownsRow B' e size v n xs := by
  obtain ⟨h1, h2⟩ := h
  refine ⟨h1, ?_⟩
  rcases h2 with h2 | ⟨g, cap, cur, hv, hg, hh, r⟩
  · exact .inl h2
  · exact .inr ⟨g, cap, cur, hv, by omega, hh, r⟩
/-- A row of ints of the call's own in a block of D. -/
def OwnD (w : World) (D : Nat → Prop) (u : Value) (l : List Int) : Prop := w.ownsRow 0 3 1 u l.length (lits l) ∧ ∀ k, u.ownBlock = some k → D k
theorem OwnD.in {u : Value} {l : List Int} (h : OwnD w D u l) : IntsIn w D u l := OwnInts.in (B := 0) h.1 h.2
theorem OwnD.kp {u : Value} {l : List Int} (h : OwnD w D u l) (hb : Kp D w w') : OwnD w' D u l := ⟨ownsRow_kp h.1 hb h.2, h.2⟩
theorem OwnD.sub {u : Value} {l : List Int} (h : OwnD w D u l) (hD : ∀ k, k < w.heap.size → D k → D' k) : OwnD w D' u l := ⟨h.1, fun k hk => hD k (h.1.lt k hk).2 (h.2 k hk)⟩
theorem OwnD.of {B : Nat} {u : Value} {l : List Int} (h : OwnInts w B u l) (hD : ∀ k, B ≤ k → k < w.heap.size → D k) : OwnD w D u l := ⟨ownsRow_low h (Nat.zero_le _), fun k hk => hD k (h.lt k hk).1 (h.lt k hk).2⟩
/-- What is owned with elements of another type lies in another block. -/
theorem types_apart {B B' : Nat} {e e' : TypeId} {size size' : Nat} {v v' : Value} {n n' : Nat} {xs xs' : List Value} (h : w.ownsRow B e size v n xs) (h' : w.ownsRow B' e' size' v' n' xs') (he : e ≠ e') :
    v.ownBlock = none ∨ v.ownBlock ≠ v'.ownBlock := by
  rcases h.2 with ⟨rfl, _⟩ | ⟨g, cap, cur, rfl, _, hg, _⟩
  · exact .inl rfl
  · rcases h'.2 with ⟨rfl, _⟩ | ⟨g', cap', cur', rfl, _, hg', _⟩
    · exact .inr (by simp [Value.ownBlock])
    · refine .inr fun e2 => he ?_
      have e3 : g = g' := by simpa [Value.ownBlock] using e2
      subst e3
      rw [hg] at hg'
      simp at hg'
      exact hg'.2
/-- A list of rows of the call's own in blocks of D. -/
def OwnRows (w : World) (D : Nat → Prop) (v : Value) (l : List Rw) : Prop :=
  ∃ us : List Value, us.length = l.length ∧ w.ownsRow 0 34 2 v l.length (flat l us) ∧ (∀ k, v.ownBlock = some k → D k) ∧ ∀ (j : Nat) (r : Rw) (u : Value), l[j]? = some r → us[j]? = some u → OwnD w D u r.2
theorem OwnRows.nil (w : World) (D : Nat → Prop) : OwnRows w D (.slice none 0 0) [] := ⟨[], rfl, World.ownsRow_nil _ _ _ _, (fun k h => by cases h), fun j s u h => by simp at h⟩
theorem OwnRows.in (h : OwnRows w D v l) : RowsIn w D v l := by
  obtain ⟨vs, hl, ho, hD, hi⟩ := h
  rcases Joins.ownsRow_forms ho with ⟨rfl, h0⟩ | ⟨g, cap, rfl⟩
  · obtain rfl := List.length_eq_zero_iff.1 h0
    exact ⟨none, 0, rfl, .inl rfl⟩
  · refine ⟨_, cap, rfl, .inr ⟨g, 0, rfl, hD g rfl, (ho.lt g rfl).2, fun j s hj => ?_⟩⟩
    have hj' : j < l.length := (List.getElem?_eq_some_iff.1 hj).1
    obtain ⟨u, hu⟩ : ∃ u, vs[j]? = some u := ⟨vs[j]'(by omega), List.getElem?_eq_getElem (by omega)⟩
    have hf := flat_get l vs j s u hj hu
    refine ⟨u, ?_, ?_, (hi j s u hj hu).in⟩
    · rw [Nat.zero_add, World.ownsRow.cellAt ho (j * 2) (by omega)]; exact hf.1
    · rw [Nat.zero_add, World.ownsRow.cellAt ho (j * 2 + 1) (by omega)]; exact hf.2
theorem OwnRows.kp (h : OwnRows w D v l) (hb : Kp D w w') : OwnRows w' D v l := by
  obtain ⟨us, h1, h2, h3, h4⟩ := h
  exact ⟨us, h1, ownsRow_kp h2 hb h3, h3, fun j r u hj hu => (h4 j r u hj hu).kp hb⟩
theorem OwnRows.sub (h : OwnRows w D v l) (hD : ∀ k, k < w.heap.size → D k → D' k) : OwnRows w D' v l := by
  obtain ⟨us, h1, h2, h3, h4⟩ := h
  exact ⟨us, h1, h2, fun k hk => hD k (h2.lt k hk).2 (h3 k hk), fun j r u hj hu => (h4 j r u hj hu).sub hD⟩
/-- One row more. -/
theorem OwnRows.snoc {w3 w4 : World} {v' u : Value} {us : List Value} {r : Rw} {o : Obj} (h1 : us.length = l.length) (h2 : w.ownsRow 0 34 2 v l.length (flat l us)) (h3 : ∀ k, v.ownBlock = some k → D k)
    (h4 : ∀ (j : Nat) (r : Rw) (u : Value), l[j]? = some r → us[j]? = some u → OwnD w D u r.2) (hb : Below w.heap.size w w3) (hu : OwnD w3 D u r.2)
    (ho : w4.ownsRow 0 34 2 v' (l.length + 1) (flat l us ++ [.int .i64 r.1, u])) (hg : (w3.alloc o).grownBy w4 v.ownBlock) (hw : v'.ownBlock = v.ownBlock ∨ ∃ g, v'.ownBlock = some g ∧ w.heap.size ≤ g) (hD : ∀ k, w.heap.size ≤ k → D k) : OwnRows w4 D v' (l ++ [r]) := by
  have h23 : w3.ownsRow 0 34 2 v l.length (flat l us) := ownsRow_kp (D := All) h2 (Kp.of hb) (fun _ _ => trivial)
  have keep : ∀ {x : Value} {m : List Int}, OwnD w3 D x m → OwnD w4 D x m := fun {x m} hx => by
    refine ⟨?_, hx.2⟩
    exact (hx.1.alloc o).kept hg (types_apart hx.1 h23 (by decide))
  refine ⟨us ++ [u], by simp [h1], by rw [List.length_append, flat_snoc _ _ _ _ h1]; exact ho, fun k hk => ?_, fun j s x hj hx => ?_⟩
  · rcases hw with e | ⟨g, e, hgz⟩
    · exact h3 k (by rw [← e]; exact hk)
    · rw [e] at hk
      obtain rfl := Option.some.inj hk
      exact hD _ hgz
  · by_cases hjl : j < l.length
    · rw [List.getElem?_append_left hjl] at hj
      rw [List.getElem?_append_left (by omega)] at hx
      exact keep ((h4 j s x hj hx).kp (Kp.of hb))
    · have hj' : j = l.length := by
        have := (List.getElem?_eq_some_iff.1 hj).1; simp at this; omega
      subst hj'
      rw [List.getElem?_append_right (by omega)] at hj
      rw [List.getElem?_append_right (by omega)] at hx
      simp at hj
      rw [h1] at hx
      simp at hx
      subst hj hx
      exact keep hu
end
end Go.Proofs.Ytmkoejpdoeblkaa
