/-
  Two nets over the same rows, the package's and the document's: what holds of both between the calls. No condition beyond those that each lemma states.
-/
import Derived.Test.YtlandkindbmbfaaK13
namespace Go.Proofs.Ytlandkindbmbfaa
open Go.RowKit Plain

/-- Of what was there before only the block X2 may have turned. -/
structure Exc (X2 : Nat) (wB wr : World) : Prop where
  os : wr.os = wB.os
  tape : wr.tape = wB.tape
  output : wr.output = wB.output
  size : wB.heap.size ≤ wr.heap.size
  block : ∀ k, k < wB.heap.size → k ≠ X2 → wr.heap[k]? = wB.heap[k]?
/-- .. and the row of the slice rv. -/
structure Chg (X2 : Nat) (rv : Value) (wr w1 : World) : Prop where
  os : w1.os = wr.os
  tape : w1.tape = wr.tape
  output : w1.output = wr.output
  size : wr.heap.size ≤ w1.heap.size
  block : ∀ k, k < wr.heap.size → k ≠ X2 → rv.ownBlock ≠ some k → w1.heap[k]? = wr.heap[k]?

/-- Rows of the document's net, none in a block of the other net. -/
def RowsZ (w : World) (G : Nat → Nat) (B : Nat) (v : Value) (l : List Shp) : Prop :=
  ∃ vs : List Value, vs.length = l.length ∧ w.ownsRow B 33 2 v l.length (flat l vs) ∧ (∀ k, v.ownBlock = some k → G k = 0) ∧
    ∀ (j : Nat) (s : Shp) (u : Value), l[j]? = some s → vs[j]? = some u → OwnInts w B u s.cells ∧ ∀ k, u.ownBlock = some k → G k = 0

structure Both (wB : World) (X : Nat) (mv : Value) (ms : List Nat) (ss : List Shp) (X2 : Nat) (sv : Value) (ra rd : List Shp) (wr : World) (G : Nat → Nat) (rv : Value) : Prop where
  net : MNet wr G X mv ms ss (lsOf ss ra) ra.length
  zero : ∀ k, k < wB.heap.size → G k = 0
  lt2 : X2 < wB.heap.size
  box : wr.heap[X2]? = some (.cells #[sv, rv] 98 (0, 0))
  rows : RowsZ wr G wB.heap.size rv rd
  exc : Exc X2 wB wr

section
variable {wB wr w1 w2 : World} {G G' : Nat → Nat} {B X X2 : Nat} {mv sv rv rv' v u : Value} {ms : List Nat} {ss ra rd l : List Shp} {r : Shp}

theorem Exc.trans (h : Exc X2 wB wr) (hs : wr.heap.size ≤ w1.heap.size) (ho : w1.os = wr.os) (ht : w1.tape = wr.tape) (hp : w1.output = wr.output) (hb : ∀ k, k < wB.heap.size → k ≠ X2 → w1.heap[k]? = wr.heap[k]?) : Exc X2 wB w1 :=
  ⟨ho.trans h.os, ht.trans h.tape, hp.trans h.output, Nat.le_trans h.size hs, fun k hk hx => (hb k hk hx).trans (h.block k hk hx)⟩
theorem Exc.below (h : Exc X2 wB wr) {B : Nat} (hB : B ≤ X2) (hB2 : B ≤ wB.heap.size) : Below B wB wr := ⟨h.os, h.tape, h.output, h.size, fun k hk => h.block k (by omega) (by omega)⟩
theorem RowsZ.keep (h : RowsZ wr G B v l) (hb : ∀ k, k < wr.heap.size → G k = 0 → B ≤ k → w1.heap[k]? = wr.heap[k]? ∧ G' k = 0) : RowsZ w1 G' B v l := by
  obtain ⟨vs, hl, ho, hz, hi⟩ := h
  refine ⟨vs, hl, row_keep ho (fun k hk => (hb k (World.ownsRow.lt ho k hk).2 (hz k hk) (World.ownsRow.lt ho k hk).1).1), fun k hk => (hb k (World.ownsRow.lt ho k hk).2 (hz k hk) (World.ownsRow.lt ho k hk).1).2, fun j s u h1 h2 => ?_⟩
  obtain ⟨h3, h4⟩ := hi j s u h1 h2
  exact ⟨row_keep h3 (fun k hk => (hb k (World.ownsRow.lt h3 k hk).2 (h4 k hk) (World.ownsRow.lt h3 k hk).1).1), fun k hk => (hb k (World.ownsRow.lt h3 k hk).2 (h4 k hk) (World.ownsRow.lt h3 k hk).1).2⟩

theorem Both.x2lt (h : Both wB X mv ms ss X2 sv ra rd wr G rv) : X2 < wr.heap.size := lt_of_block h.box
theorem Both.up (h : Both wB X mv ms ss X2 sv ra rd wr G rv) (hb : Below wr.heap.size wr w1) : Both wB X mv ms ss X2 sv ra rd w1 G rv :=
  ⟨h.net.up hb, h.zero, h.lt2, (hb.block X2 h.x2lt).trans h.box, h.rows.keep (fun k hk hg _ => ⟨hb.block k hk, hg⟩), h.exc.trans hb.size hb.os hb.tape hb.output (fun k hk _ => hb.block k (Nat.lt_of_lt_of_le hk h.exc.size))⟩
theorem Both.same (h : Both wB X mv ms ss X2 sv ra rd wr G rv) (e : w1.heap = wr.heap) (eo : w1.os = wr.os) (et : w1.tape = wr.tape) (ep : w1.output = wr.output) : Both wB X mv ms ss X2 sv ra rd w1 G rv :=
  h.up ⟨eo, et, ep, by rw [e]; exact Nat.le_refl _, fun k _ => by rw [e]⟩
theorem Both.drew (h : Both wB X mv ms ss X2 sv ra rd wr G rv) : Both wB X mv ms ss X2 sv ra rd wr.drew G rv := h.same rfl rfl rfl rfl
theorem Both.alloc (h : Both wB X mv ms ss X2 sv ra rd wr G rv) (o : Obj) : Both wB X mv ms ss X2 sv ra rd (wr.alloc o) G rv := h.up (up_alloc _ _)
/-- The document's shapes stay. -/
theorem Both.shps (h : Both wB X mv ms ss X2 sv ra rd wr G rv) (hs : OwnShps wB (X2 + 1) sv ss) : OwnShps wr (X2 + 1) sv ss := by
  obtain ⟨vs, hl, ho, hi⟩ := hs
  have key : ∀ k, X2 + 1 ≤ k ∧ k < wB.heap.size → wr.heap[k]? = wB.heap[k]? := fun k hk => h.exc.block k hk.2 (by omega)
  exact ⟨vs, hl, row_keep ho (fun k hk => key k (World.ownsRow.lt ho k hk)), fun j s u h1 h2 => row_keep (hi j s u h1 h2) (fun k hk => key k (World.ownsRow.lt (hi j s u h1 h2) k hk))⟩
theorem Both.c0 (h : Both wB X mv ms ss X2 sv ra rd wr G rv) : wr.cell? ⟨X2, 0, none⟩ = some sv := by have := h.box; simp only [World.cell?, this]; rfl
theorem Both.c1 (h : Both wB X mv ms ss X2 sv ra rd wr G rv) : wr.cell? ⟨X2, 1, none⟩ = some rv := by have := h.box; simp only [World.cell?, this]; rfl
theorem Both.f1 (h : Both wB X mv ms ss X2 sv ra rd wr G rv) : wr.frozen? ⟨X2, 1, none⟩ = false := by have := h.box; simp only [World.frozen?, this]; rfl
theorem RowsZ.own (h : RowsZ wr G B v l) : OwnRws wr B v l := by
  obtain ⟨vs, hl, ho, _, hi⟩ := h
  exact ⟨vs, hl, ho, fun j s u h1 h2 => (hi j s u h1 h2).1⟩
theorem RowsZ.form (h : RowsZ wr G B v l) : ∃ a c, v = .slice a l.length c ∧ (l ≠ [] → ∃ g, a = some ⟨g, 0, none⟩) := h.own.form
theorem RowsZ.nil (w : World) (G : Nat → Nat) (B : Nat) : RowsZ w G B (.slice none 0 0) [] := ⟨[], rfl, World.ownsRow_nil _ _ _ _, fun k hk => by simp [Value.ownBlock] at hk, fun j s u h => by simp at h⟩

/-- The package's net has taken a row, or lost some. -/
theorem Both.turn (h : Both wB X mv ms ss X2 sv ra rd wr G rv) {ra' : List Shp} (hn : MNet w1 G' X mv ms ss (lsOf ss ra') ra'.length) (ht : ∀ k, k < wr.heap.size → G' k = G k) (hT : Turned G wr w1) : Both wB X mv ms ss X2 sv ra' rd w1 G' rv := by
  have hx := h.x2lt
  have hz := h.exc.size
  have hX2 : G X2 = 0 := h.zero X2 h.lt2
  refine ⟨hn, fun k hk => (ht k (Nat.lt_of_lt_of_le hk hz)).trans (h.zero k hk), h.lt2, (hT.block X2 hx (by omega)).trans h.box, h.rows.keep (fun k hk hg _ => ⟨hT.block k hk (by omega), (ht k hk).trans hg⟩),
    h.exc.trans hT.size hT.os hT.tape hT.output (fun k hk _ => hT.block k (Nat.lt_of_lt_of_le hk hz) (by rw [h.zero k hk]; decide))⟩

/-- The document's net has taken a row. -/
theorem Both.push (h : Both wB X mv ms ss X2 sv ra rd wr G rv) {vs : List Value} (hl : vs.length = rd.length) (ho : wr.ownsRow wB.heap.size 33 2 rv rd.length (flat rd vs)) (hz : ∀ k, rv.ownBlock = some k → G k = 0)
    (hi : ∀ (j : Nat) (s : Shp) (x : Value), rd[j]? = some s → vs[j]? = some x → OwnInts wr wB.heap.size x s.cells ∧ ∀ k, x.ownBlock = some k → G k = 0)
    (hb : Below wr.heap.size wr w1) (hu : OwnInts w1 wr.heap.size u r.cells) (hg : w1.grownBy w2 rv.ownBlock)
    (hown : w2.ownsRow wB.heap.size 33 2 rv' (rd.length + 1) (flat rd vs ++ [.int .i64 r.pred, u])) (hat : rv'.ownBlock = rv.ownBlock ∨ rv'.ownBlock = some w1.heap.size) :
    Both wB X mv ms ss X2 sv ra (rd ++ [r]) (w2.setCell ⟨X2, 1, none⟩ rv') G rv' ∧ Chg X2 rv wr (w2.setCell ⟨X2, 1, none⟩ rv') := by
  have hx := h.x2lt
  have hx2 := h.lt2
  have hzs := h.exc.size
  have hX2 : G X2 = 0 := h.zero X2 h.lt2
  have hsz : (w2.setCell ⟨X2, 1, none⟩ rv').heap.size = w2.heap.size := by simp [World.setCell]
  have hrlt : ∀ k, rv.ownBlock = some k → wB.heap.size ≤ k ∧ k < wr.heap.size := fun k hk => World.ownsRow.lt ho k hk
  have hrX : rv.ownBlock ≠ some X2 := fun e => by have := hrlt X2 e; omega
  have k1 : ∀ k, k < w1.heap.size → k ≠ X2 → rv.ownBlock ≠ some k → (w2.setCell ⟨X2, 1, none⟩ rv').heap[k]? = w1.heap[k]? := fun k hk hkx hkr =>
    (Below.heap_setCell _ _ _ _ hkx).trans (hg.block k hk (fun e => hkr e.symm))
  have kr : ∀ k, k < wr.heap.size → k ≠ X2 → rv.ownBlock ≠ some k → (w2.setCell ⟨X2, 1, none⟩ rv').heap[k]? = wr.heap[k]? := fun k hk hkx hkr =>
    (k1 k (Nat.lt_of_lt_of_le hk hb.size) hkx hkr).trans (hb.block k hk)
  have hs1 := hb.size
  have hs2 := hg.size
  have hbox : w2.heap[X2]? = some (.cells #[sv, rv] 98 (0, 0)) := (hg.block X2 (by omega) (fun e => hrX e.symm)).trans ((hb.block X2 hx).trans h.box)
  refine ⟨⟨h.net.keep (by omega) (fun k hk => kr k (h.net.lt hk) (fun e => hk (by rw [e]; exact hX2)) (fun e => hk (hz k e))), h.zero, h.lt2, by rw [block_setCell hbox]; rfl, ?_, ?_⟩, ?_⟩
  · refine ⟨vs ++ [u], by simp [hl], ?_, fun k hk => ?_, fun j s x e1 e2 => ?_⟩
    · rw [flat_snoc _ _ _ _ hl, List.length_append, List.length_singleton]
      exact row_keep hown (fun k hk => Below.heap_setCell _ _ _ _ (fun e => by have := (World.ownsRow.lt hown k hk).1; simp only at e; omega))
    · rcases hat with e | e
      · exact hz k (e ▸ hk)
      · rw [hk] at e; have := Option.some.inj e; exact h.net.zero k (by omega)
    · have hj : j < (rd ++ [r]).length := (List.getElem?_eq_some_iff.1 e1).1
      rw [List.length_append, List.length_singleton] at hj
      by_cases e : j < rd.length
      · rw [List.getElem?_append_left e] at e1
        rw [List.getElem?_append_left (by omega)] at e2
        obtain ⟨h1, h2⟩ := hi j s x e1 e2
        refine ⟨row_keep h1 (fun k hk => ?_), h2⟩
        have hk2 := World.ownsRow.lt h1 k hk
        refine kr k hk2.2 (by omega) (fun e => ?_)
        rcases types_apart h1 ho (by decide) with h3 | h3
        · rw [h3] at hk; cases hk
        · exact h3 (hk.trans e.symm)
      · obtain rfl : j = rd.length := by omega
        have e3 : (rd ++ [r])[rd.length]? = some r := by simp
        have e4 : (vs ++ [u])[rd.length]? = some u := by rw [← hl]; simp
        rw [e3] at e1; rw [e4] at e2
        obtain rfl := Option.some.inj e1
        obtain rfl := Option.some.inj e2
        refine ⟨(row_keep hu (fun k hk => ?_)).mono hzs, fun k hk => h.net.zero k (World.ownsRow.lt hu k hk).1⟩
        have hk2 := World.ownsRow.lt hu k hk
        exact k1 k hk2.2 (by omega) (fun e => by have := hrlt k e; omega)
  · exact h.exc.trans (by omega) (hg.os.trans hb.os) (hg.tape.trans hb.tape) (hg.output.trans hb.output) (fun k hk hkx => kr k (by omega) hkx (fun e => by have := hrlt k e; omega))
  · exact ⟨hg.os.trans hb.os, hg.tape.trans hb.tape, hg.output.trans hb.output, by omega, kr⟩

theorem flat_take : ∀ (l : List Shp) (vs : List Value) (m : Nat), (flat l vs).take (m * 2) = flat (l.take m) (vs.take m)
  | [], vs, m => by cases m <;> simp [flat]
  | _ :: _, [], m => by cases m <;> simp [flat]
  | s :: l, x :: vs, 0 => rfl
  | s :: l, x :: vs, m + 1 => by
    rw [show (m + 1) * 2 = m * 2 + 1 + 1 by omega]
    simp only [flat, List.take_succ_cons]
    rw [flat_take l vs m]

/-- The document's net has lost some rows. -/
theorem Both.cut (h : Both wB X mv ms ss X2 sv ra rd wr G rv) {vs : List Value} {m : Nat} (hm : m ≤ rd.length) (hl : vs.length = rd.length)
    (hi : ∀ (j : Nat) (s : Shp) (x : Value), rd[j]? = some s → vs[j]? = some x → OwnInts wr wB.heap.size x s.cells ∧ ∀ k, x.ownBlock = some k → G k = 0)
    (hb : Below wr.heap.size wr w2) (hown : w2.ownsRow wr.heap.size 33 2 rv' m ((flat rd vs).take (m * 2))) :
    Both wB X mv ms ss X2 sv ra (rd.take m) (w2.setCell ⟨X2, 1, none⟩ rv') G rv' ∧ Chg X2 rv wr (w2.setCell ⟨X2, 1, none⟩ rv') := by
  have hx := h.x2lt
  have hx2 := h.lt2
  have hzs := h.exc.size
  have hX2 : G X2 = 0 := h.zero X2 h.lt2
  have hsz : (w2.setCell ⟨X2, 1, none⟩ rv').heap.size = w2.heap.size := by simp [World.setCell]
  have kr : ∀ k, k < wr.heap.size → k ≠ X2 → (w2.setCell ⟨X2, 1, none⟩ rv').heap[k]? = wr.heap[k]? := fun k hk hkx => (Below.heap_setCell _ _ _ _ hkx).trans (hb.block k hk)
  have hs1 := hb.size
  have hbox : w2.heap[X2]? = some (.cells #[sv, rv] 98 (0, 0)) := (hb.block X2 hx).trans h.box
  have hml : (rd.take m).length = m := by rw [List.length_take]; omega
  refine ⟨⟨h.net.keep (by omega) (fun k hk => kr k (h.net.lt hk) (fun e => hk (by rw [e]; exact hX2))), h.zero, h.lt2, by rw [block_setCell hbox]; rfl, ?_, ?_⟩, ?_⟩
  · refine ⟨vs.take m, by rw [List.length_take, hml]; omega, ?_, fun k hk => h.net.zero k (World.ownsRow.lt hown k hk).1, fun j s x e1 e2 => ?_⟩
    · rw [hml, ← flat_take]
      exact (row_keep hown (fun k hk => Below.heap_setCell _ _ _ _ (fun e => by have := (World.ownsRow.lt hown k hk).1; simp only at e; omega))).mono hzs
    · have hj : j < (rd.take m).length := (List.getElem?_eq_some_iff.1 e1).1
      rw [hml] at hj
      rw [List.getElem?_take_of_lt hj] at e1 e2
      obtain ⟨h1, h2⟩ := hi j s x e1 e2
      refine ⟨row_keep h1 (fun k hk => ?_), h2⟩
      have hk2 := World.ownsRow.lt h1 k hk
      exact kr k hk2.2 (by omega)
  · exact h.exc.trans (by omega) hb.os hb.tape hb.output (fun k hk hkx => kr k (by omega) hkx)
  · exact ⟨hb.os, hb.tape, hb.output, by omega, fun k hk hkx _ => kr k hk hkx⟩
theorem Both.atGrown (h : Both wB X mv ms ss X2 sv ra rd w1 G rv) (hg : w1.grownBy w2 rv.ownBlock) : w2.cell? ⟨X2, 1, none⟩ = some rv ∧ w2.frozen? ⟨X2, 1, none⟩ = false := by
  obtain ⟨vs, hl, ho, _⟩ := h.rows
  have e : w2.heap[X2]? = some (.cells #[sv, rv] 98 (0, 0)) := (hg.block X2 h.x2lt (fun e => by have := (World.ownsRow.lt ho X2 e.symm).1; have := h.lt2; omega)).trans h.box
  exact ⟨by simp only [World.cell?, e]; rfl, by simp only [World.frozen?, e]; rfl⟩
end

end Go.Proofs.Ytlandkindbmbfaa
