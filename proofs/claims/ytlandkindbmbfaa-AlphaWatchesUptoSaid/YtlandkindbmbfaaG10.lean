/-
  Texts of this seat, one behind the other: K16, K14, K15, W24, W25. Conditions: those that each of them states.
-/
import Derived.Test.YtlandkindbmbfaaG9
import Derived.Deep.RegionLaw
import Derived.Deep.CutRange
/-
  Two nets over the same rows, the package's and the document's: what holds of both between the calls. No condition beyond those that each lemma states.
-/
namespace Go.Proofs.Ytlandkindbmbfaa
open Go.RowKit Plain

/-- Of what was there before only the block X2 may have turned. -/
structure Exc (X2 : Nat) (wB wr : World) : Prop where
  os : wr.os = wB.os
  tape : wr.tape = wB.tape
  output : wr.output = wB.output
  size : wB.heap.size ≤ wr.heap.size
  block : ∀ k, k < wB.heap.size → k ≠ X2 → wr.heap[k]? = wB.heap[k]?
/-- .. and the row of the slice rv. -/
structure Chg (X2 : Nat) (rv : Value) (wr w1 : World) : Prop where
  os : w1.os = wr.os
  tape : w1.tape = wr.tape
  output : w1.output = wr.output
  size : wr.heap.size ≤ w1.heap.size
  block : ∀ k, k < wr.heap.size → k ≠ X2 → rv.ownBlock ≠ some k → w1.heap[k]? = wr.heap[k]?

/-- Rows of the document's net, none in a block of the other net. -/
def RowsZ (w : World) (G : Nat → Nat) (B : Nat) (v : Value) (l : List Shp) : Prop :=
  ∃ vs : List Value, vs.length = l.length ∧ w.ownsRow B 33 2 v l.length (flat l vs) ∧ (∀ k, v.ownBlock = some k → G k = 0) ∧
    ∀ (j : Nat) (s : Shp) (u : Value), l[j]? = some s → vs[j]? = some u → OwnInts w B u s.cells ∧ ∀ k, u.ownBlock = some k → G k = 0

structure Both (wB : World) (X : Nat) (mv : Value) (ms : List Nat) (ss : List Shp) (X2 : Nat) (sv : Value) (ra rd : List Shp) (wr : World) (G : Nat → Nat) (rv : Value) : Prop where
  net : MNet wr G X mv ms ss (lsOf ss ra) ra.length
  zero : ∀ k, k < wB.heap.size → G k = 0
  lt2 : X2 < wB.heap.size
  box : wr.heap[X2]? = some (.cells #[sv, rv] 98 (0, 0))
  rows : RowsZ wr G wB.heap.size rv rd
  exc : Exc X2 wB wr

section
variable {wB wr w1 w2 : World} {G G' : Nat → Nat} {B X X2 : Nat} {mv sv rv rv' v u : Value} {ms : List Nat} {ss ra rd l : List Shp} {r : Shp}

theorem Exc.trans (h : Exc X2 wB wr) (hs : wr.heap.size ≤ w1.heap.size) (ho : w1.os = wr.os) (ht : w1.tape = wr.tape) (hp : w1.output = wr.output) (hb : ∀ k, k < wB.heap.size → k ≠ X2 → w1.heap[k]? = wr.heap[k]?) : Exc X2 wB w1 :=
  ⟨ho.trans h.os, ht.trans h.tape, hp.trans h.output, Nat.le_trans h.size hs, fun k hk hx => (hb k hk hx).trans (h.block k hk hx)⟩
theorem Exc.below (h : Exc X2 wB wr) {B : Nat} (hB : B ≤ X2) (hB2 : B ≤ wB.heap.size) : Below B wB wr := ⟨h.os, h.tape, h.output, h.size, fun k hk => h.block k (by omega) (by omega)⟩
theorem RowsZ.keep (h : RowsZ wr G B v l) (hb : ∀ k, k < wr.heap.size → G k = 0 → B ≤ k → w1.heap[k]? = wr.heap[k]? ∧ G' k = 0) : RowsZ w1 G' B v l := by
  obtain ⟨vs, hl, ho, hz, hi⟩ := h
  refine ⟨vs, hl, row_keep ho (fun k hk => (hb k (World.ownsRow.lt ho k hk).2 (hz k hk) (World.ownsRow.lt ho k hk).1).1), fun k hk => (hb k (World.ownsRow.lt ho k hk).2 (hz k hk) (World.ownsRow.lt ho k hk).1).2, fun j s u h1 h2 => ?_⟩
  obtain ⟨h3, h4⟩ := hi j s u h1 h2
  exact ⟨row_keep h3 (fun k hk => (hb k (World.ownsRow.lt h3 k hk).2 (h4 k hk) (World.ownsRow.lt h3 k hk).1).1), fun k hk => (hb k (World.ownsRow.lt h3 k hk).2 (h4 k hk) (World.ownsRow.lt h3 k hk).1).2⟩

theorem Both.x2lt (h : Both wB X mv ms ss X2 sv ra rd wr G rv) : X2 < wr.heap.size := lt_of_block h.box
theorem Both.up (h : Both wB X mv ms ss X2 sv ra rd wr G rv) (hb : Below wr.heap.size wr w1) : Both wB X mv ms ss X2 sv ra rd w1 G rv :=
  ⟨h.net.up hb, h.zero, h.lt2, (hb.block X2 h.x2lt).trans h.box, h.rows.keep (fun k hk hg _ => ⟨hb.block k hk, hg⟩), h.exc.trans hb.size hb.os hb.tape hb.output (fun k hk _ => hb.block k (Nat.lt_of_lt_of_le hk h.exc.size))⟩
theorem Both.same (h : Both wB X mv ms ss X2 sv ra rd wr G rv) (e : w1.heap = wr.heap) (eo : w1.os = wr.os) (et : w1.tape = wr.tape) (ep : w1.output = wr.output) : Both wB X mv ms ss X2 sv ra rd w1 G rv :=
  h.up ⟨eo, et, ep, by rw [e]; exact Nat.le_refl _, fun k _ => by rw [e]⟩
theorem Both.drew (h : Both wB X mv ms ss X2 sv ra rd wr G rv) : Both wB X mv ms ss X2 sv ra rd wr.drew G rv := h.same rfl rfl rfl rfl
theorem Both.alloc (h : Both wB X mv ms ss X2 sv ra rd wr G rv) (o : Obj) : Both wB X mv ms ss X2 sv ra rd (wr.alloc o) G rv := h.up (up_alloc _ _)
/-- The document's shapes stay. -/
theorem Both.shps (h : Both wB X mv ms ss X2 sv ra rd wr G rv) (hs : OwnShps wB (X2 + 1) sv ss) : OwnShps wr (X2 + 1) sv ss := by
  obtain ⟨vs, hl, ho, hi⟩ := hs
  have key : ∀ k, X2 + 1 ≤ k ∧ k < wB.heap.size → wr.heap[k]? = wB.heap[k]? := fun k hk => h.exc.block k hk.2 (by omega)
  exact ⟨vs, hl, row_keep ho (fun k hk => key k (World.ownsRow.lt ho k hk)), fun j s u h1 h2 => row_keep (hi j s u h1 h2) (fun k hk => key k (World.ownsRow.lt (hi j s u h1 h2) k hk))⟩
theorem Both.c0 (h : Both wB X mv ms ss X2 sv ra rd wr G rv) : wr.cell? ⟨X2, 0, none⟩ = some sv := by have := h.box; simp only [World.cell?, this]; rfl
theorem Both.c1 (h : Both wB X mv ms ss X2 sv ra rd wr G rv) : wr.cell? ⟨X2, 1, none⟩ = some rv := by have := h.box; simp only [World.cell?, this]; rfl
theorem Both.f1 (h : Both wB X mv ms ss X2 sv ra rd wr G rv) : wr.frozen? ⟨X2, 1, none⟩ = false := by have := h.box; simp only [World.frozen?, this]; rfl
theorem RowsZ.own (h : RowsZ wr G B v l) : OwnRws wr B v l := by
  obtain ⟨vs, hl, ho, _, hi⟩ := h
  exact ⟨vs, hl, ho, fun j s u h1 h2 => (hi j s u h1 h2).1⟩
theorem RowsZ.form (h : RowsZ wr G B v l) : ∃ a c, v = .slice a l.length c ∧ (l ≠ [] → ∃ g, a = some ⟨g, 0, none⟩) := h.own.form
theorem RowsZ.nil (w : World) (G : Nat → Nat) (B : Nat) : RowsZ w G B (.slice none 0 0) [] := ⟨[], rfl, World.ownsRow_nil _ _ _ _, fun k hk => by simp [Value.ownBlock] at hk, fun j s u h => by simp at h⟩

/-- The package's net has taken a row, or lost some. -/
theorem Both.turn (h : Both wB X mv ms ss X2 sv ra rd wr G rv) {ra' : List Shp} (hn : MNet w1 G' X mv ms ss (lsOf ss ra') ra'.length) (ht : ∀ k, k < wr.heap.size → G' k = G k) (hT : Turned G wr w1) : Both wB X mv ms ss X2 sv ra' rd w1 G' rv := by
  have hx := h.x2lt
  have hz := h.exc.size
  have hX2 : G X2 = 0 := h.zero X2 h.lt2
  refine ⟨hn, fun k hk => (ht k (Nat.lt_of_lt_of_le hk hz)).trans (h.zero k hk), h.lt2, (hT.block X2 hx (by omega)).trans h.box, h.rows.keep (fun k hk hg _ => ⟨hT.block k hk (by omega), (ht k hk).trans hg⟩),
    h.exc.trans hT.size hT.os hT.tape hT.output (fun k hk _ => hT.block k (Nat.lt_of_lt_of_le hk hz) (by rw [h.zero k hk]; decide))⟩

/-- The document's net has taken a row. -/
theorem Both.push (h : Both wB X mv ms ss X2 sv ra rd wr G rv) {vs : List Value} (hl : vs.length = rd.length) (ho : wr.ownsRow wB.heap.size 33 2 rv rd.length (flat rd vs)) (hz : ∀ k, rv.ownBlock = some k → G k = 0)
    (hi : ∀ (j : Nat) (s : Shp) (x : Value), rd[j]? = some s → vs[j]? = some x → OwnInts wr wB.heap.size x s.cells ∧ ∀ k, x.ownBlock = some k → G k = 0)
    (hb : Below wr.heap.size wr w1) (hu : OwnInts w1 wr.heap.size u r.cells) (hg : w1.grownBy w2 rv.ownBlock)
    (hown : w2.ownsRow wB.heap.size 33 2 rv' (rd.length + 1) (flat rd vs ++ [.int .i64 r.pred, u])) (hat : rv'.ownBlock = rv.ownBlock ∨ rv'.ownBlock = some w1.heap.size) :
    Both wB X mv ms ss X2 sv ra (rd ++ [r]) (w2.setCell ⟨X2, 1, none⟩ rv') G rv' ∧ Chg X2 rv wr (w2.setCell ⟨X2, 1, none⟩ rv') := by
  have hx := h.x2lt
  have hx2 := h.lt2
  have hzs := h.exc.size
  have hX2 : G X2 = 0 := h.zero X2 h.lt2
  have hsz : (w2.setCell ⟨X2, 1, none⟩ rv').heap.size = w2.heap.size := by simp [World.setCell]
  have hrlt : ∀ k, rv.ownBlock = some k → wB.heap.size ≤ k ∧ k < wr.heap.size := fun k hk => World.ownsRow.lt ho k hk
  have hrX : rv.ownBlock ≠ some X2 := fun e => by have := hrlt X2 e; omega
  have k1 : ∀ k, k < w1.heap.size → k ≠ X2 → rv.ownBlock ≠ some k → (w2.setCell ⟨X2, 1, none⟩ rv').heap[k]? = w1.heap[k]? := fun k hk hkx hkr =>
    (Below.heap_setCell _ _ _ _ hkx).trans (hg.block k hk (fun e => hkr e.symm))
  have kr : ∀ k, k < wr.heap.size → k ≠ X2 → rv.ownBlock ≠ some k → (w2.setCell ⟨X2, 1, none⟩ rv').heap[k]? = wr.heap[k]? := fun k hk hkx hkr =>
    (k1 k (Nat.lt_of_lt_of_le hk hb.size) hkx hkr).trans (hb.block k hk)
  have hs1 := hb.size
  have hs2 := hg.size
  have hbox : w2.heap[X2]? = some (.cells #[sv, rv] 98 (0, 0)) := (hg.block X2 (by omega) (fun e => hrX e.symm)).trans ((hb.block X2 hx).trans h.box)
  refine ⟨⟨h.net.keep (by omega) (fun k hk => kr k (h.net.lt hk) (fun e => hk (by rw [e]; exact hX2)) (fun e => hk (hz k e))), h.zero, h.lt2, by rw [block_setCell hbox]; rfl, ?_, ?_⟩, ?_⟩
  · refine ⟨vs ++ [u], by simp [hl], ?_, fun k hk => ?_, fun j s x e1 e2 => ?_⟩
    · rw [flat_snoc _ _ _ _ hl, List.length_append, List.length_singleton]
      exact row_keep hown (fun k hk => Below.heap_setCell _ _ _ _ (fun e => by have := (World.ownsRow.lt hown k hk).1; simp only at e; omega))
    · rcases hat with e | e
      · exact hz k (e ▸ hk)
      · rw [hk] at e; have := Option.some.inj e; exact h.net.zero k (by omega)
    · have hj : j < (rd ++ [r]).length := (List.getElem?_eq_some_iff.1 e1).1
      rw [List.length_append, List.length_singleton] at hj
      by_cases e : j < rd.length
      · rw [List.getElem?_append_left e] at e1
        rw [List.getElem?_append_left (by omega)] at e2
        obtain ⟨h1, h2⟩ := hi j s x e1 e2
        refine ⟨row_keep h1 (fun k hk => ?_), h2⟩
        have hk2 := World.ownsRow.lt h1 k hk
        refine kr k hk2.2 (by omega) (fun e => ?_)
        rcases types_apart h1 ho (by decide) with h3 | h3
        · rw [h3] at hk; cases hk
        · exact h3 (hk.trans e.symm)
      · obtain rfl : j = rd.length := by omega
        have e3 : (rd ++ [r])[rd.length]? = some r := by simp
        have e4 : (vs ++ [u])[rd.length]? = some u := by rw [← hl]; simp
        rw [e3] at e1; rw [e4] at e2
        obtain rfl := Option.some.inj e1
        obtain rfl := Option.some.inj e2
        refine ⟨(row_keep hu (fun k hk => ?_)).mono hzs, fun k hk => h.net.zero k (World.ownsRow.lt hu k hk).1⟩
        have hk2 := World.ownsRow.lt hu k hk
        exact k1 k hk2.2 (by omega) (fun e => by have := hrlt k e; omega)
  · exact h.exc.trans (by omega) (hg.os.trans hb.os) (hg.tape.trans hb.tape) (hg.output.trans hb.output) (fun k hk hkx => kr k (by omega) hkx (fun e => by have := hrlt k e; omega))
  · exact ⟨hg.os.trans hb.os, hg.tape.trans hb.tape, hg.output.trans hb.output, by omega, kr⟩

theorem flat_take : ∀ (l : List Shp) (vs : List Value) (m : Nat), (flat l vs).take (m * 2) = flat (l.take m) (vs.take m)
  | [], vs, m => by cases m <;> simp [flat]
  | _ :: _, [], m => by cases m <;> simp [flat]
  | s :: l, x :: vs, 0 => rfl
  | s :: l, x :: vs, m + 1 => by
    rw [show (m + 1) * 2 = m * 2 + 1 + 1 by omega]
    simp only [flat, List.take_succ_cons]
    rw [flat_take l vs m]

/-- The document's net has lost some rows. -/
theorem Both.cut (h : Both wB X mv ms ss X2 sv ra rd wr G rv) {vs : List Value} {m : Nat} (hm : m ≤ rd.length) (hl : vs.length = rd.length)
    (hi : ∀ (j : Nat) (s : Shp) (x : Value), rd[j]? = some s → vs[j]? = some x → OwnInts wr wB.heap.size x s.cells ∧ ∀ k, x.ownBlock = some k → G k = 0)
    (hb : Below wr.heap.size wr w2) (hown : w2.ownsRow wr.heap.size 33 2 rv' m ((flat rd vs).take (m * 2))) :
    Both wB X mv ms ss X2 sv ra (rd.take m) (w2.setCell ⟨X2, 1, none⟩ rv') G rv' ∧ Chg X2 rv wr (w2.setCell ⟨X2, 1, none⟩ rv') := by
  have hx := h.x2lt
  have hx2 := h.lt2
  have hzs := h.exc.size
  have hX2 : G X2 = 0 := h.zero X2 h.lt2
  have hsz : (w2.setCell ⟨X2, 1, none⟩ rv').heap.size = w2.heap.size := by simp [World.setCell]
  have kr : ∀ k, k < wr.heap.size → k ≠ X2 → (w2.setCell ⟨X2, 1, none⟩ rv').heap[k]? = wr.heap[k]? := fun k hk hkx => (Below.heap_setCell _ _ _ _ hkx).trans (hb.block k hk)
  have hs1 := hb.size
  have hbox : w2.heap[X2]? = some (.cells #[sv, rv] 98 (0, 0)) := (hb.block X2 hx).trans h.box
  have hml : (rd.take m).length = m := by rw [List.length_take]; omega
  refine ⟨⟨h.net.keep (by omega) (fun k hk => kr k (h.net.lt hk) (fun e => hk (by rw [e]; exact hX2))), h.zero, h.lt2, by rw [block_setCell hbox]; rfl, ?_, ?_⟩, ?_⟩
  · refine ⟨vs.take m, by rw [List.length_take, hml]; omega, ?_, fun k hk => h.net.zero k (World.ownsRow.lt hown k hk).1, fun j s x e1 e2 => ?_⟩
    · rw [hml, ← flat_take]
      exact (row_keep hown (fun k hk => Below.heap_setCell _ _ _ _ (fun e => by have := (World.ownsRow.lt hown k hk).1; simp only at e; omega))).mono hzs
    · have hj : j < (rd.take m).length := (List.getElem?_eq_some_iff.1 e1).1
      rw [hml] at hj
      rw [List.getElem?_take_of_lt hj] at e1 e2
      obtain ⟨h1, h2⟩ := hi j s x e1 e2
      refine ⟨row_keep h1 (fun k hk => ?_), h2⟩
      have hk2 := World.ownsRow.lt h1 k hk
      exact kr k hk2.2 (by omega)
  · exact h.exc.trans (by omega) hb.os hb.tape hb.output (fun k hk hkx => kr k (by omega) hkx)
  · exact ⟨hb.os, hb.tape, hb.output, by omega, fun k hk hkx _ => kr k hk hkx⟩
theorem Both.atGrown (h : Both wB X mv ms ss X2 sv ra rd w1 G rv) (hg : w1.grownBy w2 rv.ownBlock) : w2.cell? ⟨X2, 1, none⟩ = some rv ∧ w2.frozen? ⟨X2, 1, none⟩ = false := by
  obtain ⟨vs, hl, ho, _⟩ := h.rows
  have e : w2.heap[X2]? = some (.cells #[sv, rv] 98 (0, 0)) := (hg.block X2 h.x2lt (fun e => by have := (World.ownsRow.lt ho X2 e.symm).1; have := h.lt2; omega)).trans h.box
  exact ⟨by simp only [World.cell?, e]; rfl, by simp only [World.frozen?, e]; rfl⟩
end

end Go.Proofs.Ytlandkindbmbfaa
/-
  What AlphaHolds makes out of its arguments: proper patterns, usual rows, distinct shapes that make a net. No condition beyond those that each lemma states.
-/
namespace Go.Proofs.Ytlandkindbmbfaa
open Go.RowKit Plain

def prPt (x : Pt) : Pt := (prP x.1, x.2.map pf)

theorem dist_new (ps : List Pt) : newB (distB ps) = true := by
  have key : ∀ (l : List Pt) (acc : List Shp), newB acc = true → newB (l.foldl stepD acc) = true := by
    intro l
    induction l with
    | nil => intro acc h; exact h
    | cons x l ih =>
      intro acc h
      rw [List.foldl_cons]
      refine ih _ ?_
      by_cases h0 : (shp x).pred < 0
      · rw [stepD_neg h0]; exact h
      · cases hs : standsB acc (shp x) with
        | true => rw [stepD_old hs]; exact h
        | false =>
          rw [stepD_yes (by omega) hs]
          exact newB_snoc h (by unfold shp; rw [shape_valid_iff]; exact decide_eq_true (by unfold shp at h0; omega)) hs
  exact key ps [] newB_nil
theorem dist_some {ps : List Pt} (h : ∀ x, x ∈ ps → 0 ≤ (shp x).pred) (hn : 0 < ps.length) : 0 < (distB ps).length := by
  have key : ∀ (l : List Pt) (acc : List Shp), acc.length ≤ (l.foldl stepD acc).length := by
    intro l
    induction l with
    | nil => intro acc; exact Nat.le_refl _
    | cons x l ih =>
      intro acc
      rw [List.foldl_cons]
      refine Nat.le_trans ?_ (ih _)
      unfold stepD; split <;> simp
  match ps, hn with
  | x :: l, _ =>
    unfold distB
    rw [List.foldl_cons]
    refine Nat.lt_of_lt_of_le ?_ (key l _)
    rw [stepD_yes (h x (List.mem_cons_self)) rfl]
    simp
theorem prPt_ok {x : Pt} (h : OkPat x) : OkPat (prPt x) := ⟨⟨by have := prP_ok h.1; show _ ≤ prP x.1; omega, (prP_ok h.1).2⟩, pf_i64 h.2.1, by show (x.2.map pf).length ≤ _; rw [List.length_map]; exact h.2.2⟩
theorem prPt_pred {x : Pt} (h : OkPat x) : 0 ≤ (shp (prPt x)).pred := by
  have h1 := (prP_ok h.1).1
  unfold shp prPt
  rw [shapeB_ok h1 (pf_ok _)]
  exact h1
theorem prPt_oks {ps : List Pt} (h : OkPats ps) : OkPats (ps.map prPt) := by
  intro x hx
  obtain ⟨y, hy, rfl⟩ := List.mem_map.1 hx
  exact prPt_ok (h y hy)
theorem prPt_preds {ps : List Pt} (h : OkPats ps) : ∀ x, x ∈ ps.map prPt → 0 ≤ (shp x).pred := by
  intro x hx
  obtain ⟨y, hy, rfl⟩ := List.mem_map.1 hx
  exact prPt_pred (h y hy)
theorem dist_oks {ps : List Pt} (h : OkPats ps) : Okays (distB ps) := by
  have := dist_okays h ps.length
  rw [List.take_length] at this
  exact this

theorem us_pred (r : Shp) : 0 ≤ (us r).pred := by show 0 ≤ prP r.pred; unfold prP; split <;> omega
theorem us_neg (r : Shp) : negB (us r).cells = false := by
  unfold negB
  rw [List.any_eq_false]
  intro x hx
  obtain ⟨y, _, rfl⟩ := List.mem_map.1 hx
  unfold prP
  simp only [decide_eq_true_eq]
  split <;> omega
theorem us_len (r : Shp) : (us r).cells.length = r.cells.length := List.length_map _
theorem us_rows {rows : List Shp} (h : Okays rows) {k : Nat} {r : Shp} (hr : (rows.map us)[k]? = some r) : 0 ≤ r.pred ∧ negB r.cells = false ∧ r.cells.length ≤ 17592186044400 := by
  rw [List.getElem?_map] at hr
  cases e : rows[k]? with
  | none => rw [e] at hr; cases hr
  | some q =>
    rw [e] at hr
    obtain rfl := Option.some.inj hr
    exact ⟨us_pred q, us_neg q, by rw [us_len]; exact (h q (List.mem_of_getElem? e)).2⟩
theorem take_map_snoc {α β : Type} {l : List α} {f : α → β} {i : Nat} {a : α} (h : l[i]? = some a) : (l.take (i + 1)).map f = (l.take i).map f ++ [f a] := by
  rw [take_one h, List.map_append]; rfl

theorem OwnShps.cap {w : World} {B : Nat} {v : Value} {ss : List Shp} (h : OwnShps w B v ss) : ∀ a n c, v = .slice a n c → n ≤ c := by
  obtain ⟨vs, hl, ho, _⟩ := h
  intro a n c e
  subst e
  rcases ho.2 with ⟨h1, _⟩ | ⟨g, cap, cur, h1, _, _, h2, _⟩
  · simp only [Value.slice.injEq] at h1; omega
  · simp only [Value.slice.injEq] at h1; omega

end Go.Proofs.Ytlandkindbmbfaa
/-
  A shape or a row in a list, as a region reads it; what is not the net's while the net's calls turn. No condition beyond those that each lemma states.
-/
namespace Go.Proofs.Ytlandkindbmbfaa
open Go.RowKit Plain

structure El (w : World) (g o : Nat) (s : Shp) (a : Option Addr) (c : Nat) : Prop where
  c0 : w.cell? ⟨g, o, none⟩ = some (.int .i64 s.pred)
  c1 : w.cell? ⟨g, o + 1, none⟩ = some (.slice a s.cells.length c)
  lt : g < w.heap.size
  ints : IntsAt w w.heap.size (.slice a s.cells.length c) s.cells
  nil : Nilly (.slice a s.cells.length c)
theorem El.below {w w' : World} {g o : Nat} {s : Shp} {a : Option Addr} {c : Nat} (h : El w g o s a c) (hb : Below w.heap.size w w') : El w' g o s a c :=
  ⟨below_cells hb h.lt h.c0, below_cells hb h.lt h.c1, Nat.lt_of_lt_of_le h.lt hb.size, (h.ints.below hb).mono hb.size, h.nil⟩
theorem ShpsAt.el {w : World} {B g off c n : Nat} {ss : List Shp} (h : ShpsAt w B (.slice (some ⟨g, off, none⟩) n c) ss) (hB : B ≤ w.heap.size) {j : Nat} {s : Shp} (hs : ss[j]? = some s) :
    ∃ a c', El w g (off + j * 2) s a c' := by
  obtain ⟨hg, u, c0, c1, hu, hn⟩ := ShpsAt.get h hs
  obtain ⟨a, c', rfl, _⟩ := id hu
  exact ⟨a, c', c0, c1, by omega, hu.mono hB, hn⟩
theorem OwnInts.turned {w w' : World} {G : Nat → Nat} {B : Nat} {v : Value} {l : List Int} (h : OwnInts w B v l) (ht : Turned G w w') (hG : ∀ k, B ≤ k → G k < 2) : OwnInts w' B v l :=
  row_keep h (fun k hk => ht.block k (World.ownsRow.lt h k hk).2 (hG k (World.ownsRow.lt h k hk).1))
theorem OwnRws.el {w : World} {B g c n : Nat} {l : List Shp} {G : Nat → Nat} (h : OwnRws w B (.slice (some ⟨g, 0, none⟩) n c) l) (hG : ∀ k, B ≤ k → G k < 2) {i : Nat} {r : Shp} (hi : l[i]? = some r) :
    ∃ a c', (∀ w', Turned G w w' → El w' g (i * 2) r a c') ∧ ∀ k, (Value.slice a r.cells.length c').ownBlock = some k → k < w.heap.size ∧ G k < 2 := by
  obtain ⟨⟨h1, h2⟩, u, c0, c1, hu⟩ := OwnRws.get h hi
  obtain ⟨a, c', rfl, _⟩ := id hu.at
  refine ⟨a, c', fun w' ht => ⟨(World.cell?_of_block (ht.block g h2 (hG g h1))).trans c0, (World.cell?_of_block (ht.block g h2 (hG g h1))).trans c1, Nat.lt_of_lt_of_le h2 ht.size, (hu.turned ht hG).at, hu.nilly⟩, fun k hk => ?_⟩
  have := World.ownsRow.lt hu k hk
  exact ⟨this.2, hG k this.1⟩
theorem Held.drew {wS wr : World} {G0 : Nat → Nat} {X : Nat} {mv : Value} {ms : List Nat} {ss rs : List Shp} (h : Held wS G0 X mv ms ss rs wr) : Held wS G0 X mv ms ss rs wr.drew := by
  obtain ⟨G, h1, h2, h3⟩ := h
  exact ⟨G, h1.same rfl, h2, h3.same rfl rfl rfl rfl⟩
theorem take_add {α : Type} {l : List α} {k : Nat} {a : α} (h : l[k]? = some a) : l.take k ++ [a] = l.take (k + 1) := (take_one h).symm
theorem took_mem {ss : List Shp} {j : Nat} {s r : Shp} (h : ss[j]? = some s) : decide ((j : Int) ∈ took ss r) = fitsB s r.pred r.cells := idx_mem h
theorem took_len (ss : List Shp) (r : Shp) : (took ss r).length ≤ ss.length := idx_length _

end Go.Proofs.Ytlandkindbmbfaa
/-
  The walk of edictref10's Net.Add: the row is copied and goes behind the others; the memories that it fits are told. Conditions: the numbers are ints, the lists within the form's own reach.
-/
namespace Go.Proofs.Ytlandkindbmbfaa
open Go.RowKit Plain
attribute [local go_sem ↓] Go.wp_at_zero Go.wp_at_succ

theorem negB_at {l : List Int} (h : negB l = false) {j : Nat} (hj : j < l.length) : ¬ at' l j < 0 := fun e => by rw [negB_yes hj e] at h; cases h

set_option maxRecDepth 100000 in
set_option maxHeartbeats 1600000 in
theorem radd_no (X2 : Nat) (p : Int) (row : List Int) (u : Value) (w : World) (hu : IntsAt w w.heap.size u row) (hr : row.length ≤ 35184372088832) (hp : p < 0 ∨ negB row = true) :
    Calls Try.prog 41 #[.pointer (some ⟨X2, 0, none⟩), .int .i64 p, u] w (TupIs [] 2 w) := by
  obtain ⟨a, c, rfl, ha⟩ := hu
  by_cases h0 : p < 0
  · clear hp ha
    go_enter Try.func41, Try.ntmps41
    go_wp2
    go_ret2
    exact ⟨_, rfl, OwnInts.nil _ _, Below.refl _ _⟩
  · have HN := Lib.hid (hp.resolve_left h0)
    have HA := Lib.hid ha
    have hd : decide (p < 0) = false := decide_eq_false h0
    clear hp ha
    go_enter Try.func41, Try.ntmps41
    go_wp2
    go_loop [8] (fun k => ∃ i : Nat, k = .int .i64 (i : Int) ∧ i ≤ row.length ∧ Hid (NotNegTo row i)) (fun k => row.length - (intOf k).toNat)
    case atStart => exact ⟨0, rfl, Nat.zero_le _, NotNegTo.start _⟩
    case round =>
      obtain ⟨i, rfl, hil, hE⟩ := hrel
      by_cases h1 : i < row.length
      · obtain ⟨g, off, rfl, hg, hc⟩ := HA.out.resolve_left (fun e => by rw [e] at h1; simp at h1)
        obtain ⟨x, hx⟩ : ∃ x, x = at' row i := ⟨_, rfl⟩
        have c0 : w.cell? ⟨g, off + i, none⟩ = some (.int .i64 x) := by rw [hx]; exact hc i h1
        have HX := Lib.hid hx
        clear hc hx hg
        by_cases h2 : x < 0
        · have hd2 : decide (x < 0) = true := decide_eq_true h2
          clear hE
          go_wp2
          go_ret2
          exact ⟨_, rfl, OwnInts.nil _ _, Below.refl _ _⟩
        · have HE := Lib.hid (hE.out.round (by rw [← HX.out]; omega))
          have hd2 : decide (x < 0) = false := decide_eq_false h2
          clear hE
          go_wp2
          go_round
          case rel => exact ⟨i + 1, by go_num, by omega, HE.out⟩
          case measure => simp only [intOf]; omega
      · exfalso
        have e : i = row.length := by omega
        have := negB_no (l := row) (by rw [← e]; exact hE.out)
        rw [HN.out] at this
        cases this

def RAddIs (wB : World) (X : Nat) (mv : Value) (ms : List Nat) (ss : List Shp) (X2 : Nat) (sv : Value) (ra rd : List Shp) (w : World) (G : Nat → Nat) (rv : Value) (r : Shp) (e : Ending) (w' : World) : Prop :=
  ∃ v rv', e = .returned (.tuple #[v, .int .i64 0]) ∧ Both wB X mv ms ss X2 sv ra (rd ++ [r]) w' G rv' ∧ Chg X2 rv w w' ∧ OwnInts w' w.heap.size v (took ss r)

theorem Chg.up {X2 : Nat} {rv : Value} {w w1 w2 : World} (h : Chg X2 rv w w1) (hb : Below w1.heap.size w1 w2) : Chg X2 rv w w2 :=
  ⟨hb.os.trans h.os, hb.tape.trans h.tape, hb.output.trans h.output, Nat.le_trans h.size hb.size, fun k hk h1 h2 => (hb.block k (Nat.lt_of_lt_of_le hk h.size)).trans (h.block k hk h1 h2)⟩

theorem IntsAt.chg {X2 : Nat} {rv u : Value} {w w1 : World} {l : List Int} (h : IntsAt w w.heap.size u l) (hc : Chg X2 rv w w1) (hub : l ≠ [] → ∀ k, u.ownBlock = some k → k ≠ X2 ∧ rv.ownBlock ≠ some k) : IntsAt w1 w1.heap.size u l := by
  obtain ⟨a, cap, rfl, h⟩ := h
  refine ⟨a, cap, rfl, ?_⟩
  by_cases hl : l = []
  · exact .inl hl
  · obtain ⟨g, off, rfl, hg, hx⟩ := h.resolve_left hl
    exact .inr ⟨g, off, rfl, Nat.lt_of_lt_of_le hg hc.size, fun j hj => (World.cell?_of_block (hc.block g hg (hub hl g rfl).1 (hub hl g rfl).2)).trans (hx j hj)⟩

section
variable {wB w : World} {G : Nat → Nat} {X X2 : Nat} {mv sv rv : Value} {ms : List Nat} {ss ra rd : List Shp}

set_option maxRecDepth 100000 in
set_option maxHeartbeats 6400000 in
theorem radd_yes (h : Both wB X mv ms ss X2 sv ra rd w G rv) (hsh : OwnShps wB (X2 + 1) sv ss) (hok : Okays ss) (hss : ss.length ≤ 4398046510976) (hn : rd.length < 4398046510976) (p : Int) (row : List Int) (u : Value) (hu : IntsAt w w.heap.size u row) (hny : Nilly u) (hub : row ≠ [] → ∀ k, u.ownBlock = some k → k ≠ X2 ∧ rv.ownBlock ≠ some k)
    (hr : row.length ≤ 17592186044400) (hp : 0 ≤ p) (hng : negB row = false) : Calls Try.prog 41 #[.pointer (some ⟨X2, 0, none⟩), .int .i64 p, u] w (RAddIs wB X mv ms ss X2 sv ra rd w G rv ⟨p, row⟩) := by
  obtain ⟨i3, qi, q0, q1, q2⟩ := info_parts Try.info3
  obtain ⟨i33, ri, r0, r1, r2⟩ := info_parts Try.info33
  obtain ⟨aR, cR, rfl, hRF⟩ := h.rows.form
  obtain ⟨aS, cS, rfl, hSF⟩ := hsh.at.form
  obtain ⟨vs, hvl, ho, hz, hi⟩ := h.rows
  obtain ⟨au, cu, rfl, ha⟩ := id hu
  have HB := Lib.hid h
  have HSH := Lib.hid hsh
  have HSF := Lib.hid hSF
  have HOK := Lib.hid hok
  have HO := Lib.hid ho
  have HZ := Lib.hid hz
  have HI := Lib.hid hi
  have HU := Lib.hid hu
  have HUB := Lib.hid hub
  have HA := Lib.hid ha
  have HNG := Lib.hid hng
  have hd : decide (p < 0) = false := decide_eq_false (by omega)
  have hBz := h.exc.size
  clear h hsh hRF hSF ho hz hi hu ha hng hok hub
  go_enter Try.func41, Try.ntmps41
  go_wp2
  go_loop [8] (fun k => ∃ i : Nat, k = .int .i64 (i : Int) ∧ i ≤ row.length) (fun k => row.length - (intOf k).toNat)
  case atStart => exact ⟨0, rfl, Nat.zero_le _⟩
  case round =>
    obtain ⟨i, rfl, hil⟩ := hrel
    by_cases h1 : i < row.length
    · obtain ⟨g, off, rfl, hg, hc⟩ := HA.out.resolve_left (fun e => by rw [e] at h1; simp at h1)
      obtain ⟨x, hx⟩ : ∃ x, x = at' row i := ⟨_, rfl⟩
      have c0 : w.cell? ⟨g, off + i, none⟩ = some (.int .i64 x) := by rw [hx]; exact hc i h1
      have hd2 : decide (x < 0) = false := decide_eq_false (by rw [hx]; exact negB_at HNG.out h1)
      clear hc hx hg
      go_wp2
      go_round
      case rel => exact ⟨i + 1, by go_num, by omega⟩
      case measure => simp only [intOf]; omega
    · go_upto_region 8 with fail
      go_cut [] from 24 (fun wx => ∃ rv', Both wB X mv ms ss X2 (.slice aS ss.length cS) ra (rd ++ [⟨p, row⟩]) wx G rv' ∧ Chg X2 (.slice aR rd.length cR) w wx)
      case first =>
        have c1 := HB.out.c1
        have b1 := HB.out.alloc (.cells #[] 3)
        have k1 := b1.c1
        rcases au with _ | ad
        · obtain ⟨e1, e2⟩ := hny _ _ rfl
          have hu0 : row = [] := List.length_eq_zero_iff.1 e1
          subst hu0
          obtain rfl := e2
          have hu1 : OwnInts (w.alloc (.cells #[] 3)) w.heap.size (.slice (some ⟨w.heap.size, 0, none⟩) 0 0) [] := World.ownsRow_made w #[] 0 (Nat.le_refl _) (by decide) rfl
          have m1 := (b1.alloc (.cells #[.int .i64 p, .slice (some ⟨w.heap.size, 0, none⟩) 0 0] 33)).c1
          have hone := one_shape p hu1
          have HU1 := Lib.hid hu1
          have B1 := Lib.hid b1
          clear b1 hu1
          go_wp2_with fail
          go_region_law
            (first
              | (refine step_append_own_none _ (by rfl) _ _ 25 (by rfl) w.heap.size 3 i3 1 Try.underlying25 qi (.slice (some ⟨w.heap.size, 0, none⟩) 0 0) 0 [] (by rfl) (by exact World.ownsRow_made w #[] 0 (Nat.le_refl _) (by decide) rfl) (by rfl) ?_)
              | (refine step_append_at _ (by rfl) _ _ 30 (by rfl) wB.heap.size 33 i33 (.agg #[.int .i64 0, .slice none 0 0]) 2 32 Try.underlying30 ri r0 r1 r2 rfl (by decide) (.slice aR rd.length cR) rd.length (flat rd vs) (by rfl) (by exact World.ownsRow.alloc (World.ownsRow.alloc HO.out (.cells #[] 3)) (.cells #[.int .i64 p, .slice (some ⟨w.heap.size, 0, none⟩) 0 0] 33)) ⟨w.heap.size + 1, 0, none⟩ 1 1 [.int .i64 p, .slice (some ⟨w.heap.size, 0, none⟩) 0 0] (by rfl) (by rfl) (by have hz1 : (w.alloc (.cells #[] 3)).heap.size = w.heap.size + 1 := (by simp); rw [← hz1]; exact World.news_of_block (cs := #[.int .i64 p, .slice (some ⟨w.heap.size, 0, none⟩) 0 0]) (t := 33) (fr := (0, 0)) (heap_alloc_new _ _)) hone (by unfold maxLen; omega) (by omega) (by simp; omega) ?_; intro v' w2 hown2 hgrow2 hnl2 hat2; obtain ⟨g', c', rfl⟩ := Joins.ownsRow_form hown2 (by omega); have hgrow : ((w.alloc (.cells #[] 3)).alloc (.cells #[.int .i64 p, .slice (some ⟨w.heap.size, 0, none⟩) 0 0] 33)).grownBy w2 (Value.slice aR rd.length cR).ownBlock := ⟨hgrow2.os, hgrow2.tape, hgrow2.output, hgrow2.size, hgrow2.block⟩; have HX6 := (B1.out.alloc (.cells #[.int .i64 p, .slice (some ⟨w.heap.size, 0, none⟩) 0 0] 33)).atGrown hgrow; have x6 := HX6.1; have f6 := HX6.2; have HP := Lib.hid (HB.out.push (r := ⟨p, []⟩) hvl HO.out HZ.out HI.out ((up_alloc w (.cells #[] 3)).alloc (by simp) (.cells #[.int .i64 p, .slice (some ⟨w.heap.size, 0, none⟩) 0 0] 33)) (World.ownsRow.alloc HU1.out _) hgrow hown2 hat2)))
          all_goals
            go_wp2
            go_meet
            case rel => exact ⟨_, HP.out⟩
        · have HNW := Lib.hid ((HU.out.alloc (Nat.le_refl _) (.cells #[] 3)).news)
          clear b1
          go_wp2_with fail
          go_region_law
            (first
              | (refine step_append_own _ (by rfl) _ _ 25 (by rfl) w.heap.size 3 i3 (.int .i64 0) 1 8 Try.underlying25 qi q0 q1 q2 rfl (by decide) (.slice (some ⟨w.heap.size, 0, none⟩) 0 0) 0 [] (by rfl) (by exact World.ownsRow_made w #[] 0 (Nat.le_refl _) (by decide) rfl) ad row.length cu (lits row) (by rfl) (by rw [lits_length, Nat.mul_one]) (by exact HNW.out) (lits_one _) (by unfold maxLen; omega) (by omega) (by simp) ?_; intro u1 w1 hown1 hgrow1 hnil1; obtain ⟨gu, cu1, rfl⟩ := form_of hown1 (fun e => by have := (hnil1.1 e).1; simp at this); simp only [Nat.zero_add, List.nil_append] at hown1 ⊢; have hgrow1' : (w.alloc (.cells #[] 3)).grownBy w1 (some w.heap.size) := ⟨hgrow1.os, hgrow1.tape, hgrow1.output, hgrow1.size, hgrow1.block⟩; have hb1 : Below w.heap.size w w1 := (up_alloc w (.cells #[] 3)).grown hgrow1' (by simp) (fun k hk => by simp at hk; omega); have hz1 := hb1.size; have B1 := Lib.hid (HB.out.up hb1); have k1 := B1.out.c1; have HU1 : Hid (OwnInts w1 w.heap.size (.slice (some ⟨gu, 0, none⟩) row.length cu1) row) := hown1; have hone := one_shape p HU1.out; have m1 := (B1.out.alloc (.cells #[.int .i64 p, .slice (some ⟨gu, 0, none⟩) row.length cu1] 33)).c1)
              | (refine step_append_at _ (by rfl) _ _ 30 (by rfl) wB.heap.size 33 i33 (.agg #[.int .i64 0, .slice none 0 0]) 2 32 Try.underlying30 ri r0 r1 r2 rfl (by decide) (.slice aR rd.length cR) rd.length (flat rd vs) (by rfl) (by exact World.ownsRow.alloc (row_keep HO.out (fun k hk => hb1.block k (World.ownsRow.lt HO.out k hk).2)) (.cells #[.int .i64 p, .slice (some ⟨gu, 0, none⟩) row.length cu1] 33)) ⟨w1.heap.size, 0, none⟩ 1 1 [.int .i64 p, .slice (some ⟨gu, 0, none⟩) row.length cu1] (by rfl) (by rfl) (World.news_of_block (cs := #[.int .i64 p, .slice (some ⟨gu, 0, none⟩) row.length cu1]) (t := 33) (fr := (0, 0)) (heap_alloc_new w1 _)) hone (by unfold maxLen; omega) (by omega) (by simp; omega) ?_; intro v' w2 hown2 hgrow2 hnl2 hat2; obtain ⟨g', c', rfl⟩ := Joins.ownsRow_form hown2 (by omega); have hgrow : (w1.alloc (.cells #[.int .i64 p, .slice (some ⟨gu, 0, none⟩) row.length cu1] 33)).grownBy w2 (Value.slice aR rd.length cR).ownBlock := ⟨hgrow2.os, hgrow2.tape, hgrow2.output, hgrow2.size, hgrow2.block⟩; have HX6 := (B1.out.alloc (.cells #[.int .i64 p, .slice (some ⟨gu, 0, none⟩) row.length cu1] 33)).atGrown hgrow; have x6 := HX6.1; have f6 := HX6.2; have HP := Lib.hid (HB.out.push (r := ⟨p, row⟩) hvl HO.out HZ.out HI.out (hb1.alloc hz1 (.cells #[.int .i64 p, .slice (some ⟨gu, 0, none⟩) row.length cu1] 33)) (World.ownsRow.alloc HU1.out _) hgrow hown2 hat2)))
          all_goals
            go_wp2
            go_meet
            case rel => exact ⟨_, HP.out⟩
      case rest =>
        obtain ⟨rv', hb3, hc3⟩ := hcut
        obtain ⟨w3, hw3⟩ : ∃ w3, w3 = wc := ⟨_, rfl⟩
        rw [← hw3] at hb3 hc3 ⊢
        clear hw3
        have HB3 := Lib.hid hb3
        have HC3 := Lib.hid hc3
        have HSW := Lib.hid (hb3.shps HSH.out)
        have HU3 := Lib.hid (HU.out.chg hc3 HUB.out)
        have h3z := hc3.size
        clear hb3 hc3 hny
        go_wp2
        go_loopw [9, 10] (fun q k wr => ∃ (o : Value) (i : Nat), o = q ∧ k = .int .i64 (i : Int) ∧ i ≤ ss.length ∧ Hid (Below w3.heap.size w3 wr) ∧ OwnInts wr w3.heap.size o (idx (fitF p row) (ss.take i))) (fun _ k _ => ss.length - (intOf k).toNat)
        case atStart => exact ⟨_, 0, rfl, rfl, Nat.zero_le _, Lib.hid (Below.refl _ _), OwnInts.nil _ _⟩
        case round =>
          obtain ⟨v, i, rfl, rfl, hil2, NX, hown⟩ := hrel
          have hz3 := NX.out.size
          have c0 := (HB3.out.up NX.out).c0
          have HW := Lib.hid hown
          clear hown
          by_cases h2 : i < ss.length
          · obtain ⟨s, hs⟩ : ∃ s, ss[i]? = some s := ⟨ss[i]'h2, List.getElem?_eq_getElem h2⟩
            obtain ⟨gS, oS, rfl⟩ := HSF.out (ne_of_lt_len h2)
            obtain ⟨ax, cx, ex⟩ := ShpsAt.el (j := i) ((HSW.out.up NX.out).at) (Nat.le_refl _) hs
            have EX := Lib.hid ex
            have hsok := HOK.out s (List.mem_of_getElem? hs)
            have HUW := Lib.hid ((HU3.out.below NX.out).mono hz3)
            have d0 := EX.out.c0
            have d1 := EX.out.c1
            have hnl : (idx (fitF p row) (ss.take i)).length ≤ i := Nat.le_trans (idx_length _) (by rw [List.length_take]; omega)
            have HNX := Lib.hid (idx_next (f := fitF p row) hs)
            obtain ⟨acc, hacc⟩ : ∃ acc, acc = idx (fitF p row) (ss.take i) := ⟨_, rfl⟩
            rw [← hacc] at HW hnl HNX
            clear hacc hs ex
            go_wp2_with fail
            refine (refFits_any s _ p row _ wr ⟨_, rfl, EX.out.ints⟩ hsok.1 HUW.out (by omega)).mono ?_
            rintro e w4 ⟨rfl, hb4⟩
            have NX4 := Lib.hid (NX.out.trans (hb4.mono hz3))
            have HW4 := Lib.hid (HW.out.up hb4)
            have h4z := NX4.out.size
            clear hb4 c0 d0 d1
            cases hfb : fitsB s p row with
            | false =>
              have HN : Hid (idx (fitF p row) (ss.take (i + 1)) = acc) := by
                have := HNX.out
                rw [if_neg (show ¬ fitF p row s = true by show ¬ fitsB s p row = true; rw [hfb]; decide), List.append_nil] at this
                exact this
              clear hfb
              go_wp2
              go_roundw
              case rel => exact ⟨_, i + 1, rfl, by go_num, by omega, NX4, by rw [HN.out]; exact HW4.out⟩
              case measure => simp only [intOf]; omega
            | true =>
              have HN : Hid (idx (fitF p row) (ss.take (i + 1)) = acc ++ [(i : Int)]) := by
                have := HNX.out
                rw [if_pos (show fitF p row s = true from hfb)] at this
                exact this
              clear hfb
              go_wp2_with (at_builtin; refine wpList_append_own _ rfl _ _ 25 rfl w3.heap.size 3 i3 (.int .i64 0) 1 8 Try.underlying25 qi q0 q1 q2 rfl (by decide) v acc.length (lits acc) rfl (World.ownsRow.alloc HW4.out (.cells #[.int .i64 (i : Int)] 3)) ⟨w4.heap.size, 0, none⟩ 1 1 [.int .i64 (i : Int)] rfl rfl (cell_one_new _ _ _) (one_i64 _) (by unfold maxLen; omega) (by omega) (by simp; omega) ?_; intro v' w5 hown' hgrow hnl2)
              have HR1 : Hid (OwnInts w5 w3.heap.size v' (acc ++ [(i : Int)])) := by
                unfold OwnInts Hid; rw [lits_snoc, List.length_append, List.length_singleton]; exact hown'
              have NB := Lib.hid ((NX4.out.alloc h4z _).grown hgrow (by simp; omega) (fun k hk => (HW4.out.lt k hk).1))
              clear hown' hgrow hnl2
              go_roundw
              case rel => exact ⟨_, i + 1, rfl, by go_num, by omega, NB, by rw [HN.out]; exact HR1.out⟩
              case measure => simp only [intOf]; omega
          · have e : i = ss.length := by omega
            have HF : Hid (OwnInts wr w.heap.size v (took ss ⟨p, row⟩)) := by
              have := HW.out
              rw [e, List.take_length] at this
              exact this.mono h3z
            clear e
            go_wp2
            go_ret2
            exact ⟨_, _, rfl, HB3.out.up NX.out, HC3.out.up NX.out, HF.out⟩
end

end Go.Proofs.Ytlandkindbmbfaa
/-
  The walks of edictref10's Net.Len, Rows and Undo. Conditions: the numbers are ints, the lists within the form's own reach.
-/
namespace Go.Proofs.Ytlandkindbmbfaa
open Go.RowKit Plain
attribute [local go_sem ↓] Go.wp_at_zero Go.wp_at_succ

section
variable {wB w : World} {G : Nat → Nat} {X X2 : Nat} {mv sv rv : Value} {ms : List Nat} {ss ra rd : List Shp}

theorem flat_one : ∀ (l : List Shp) (vs : List Value), (∀ (j : Nat) (s : Shp) (x : Value), l[j]? = some s → vs[j]? = some x → x.oneCell' = true) → ∀ x ∈ flat l vs, x.oneCell' = true
  | [], _, _ => by intro x hx; simp [flat] at hx
  | _ :: _, [], _ => by intro x hx; simp [flat] at hx
  | s :: l, y :: vs, h => by
    intro x hx
    simp only [flat, List.mem_cons] at hx
    rcases hx with rfl | rfl | hx
    · rfl
    · exact h 0 s x rfl rfl
    · exact flat_one l vs (fun j t z h1 h2 => h (j + 1) t z (by simpa using h1) (by simpa using h2)) x hx

theorem rlen_any (h : Both wB X mv ms ss X2 sv ra rd w G rv) : Calls Try.prog 38 #[.pointer (some ⟨X2, 0, none⟩)] w fun e w' => e = .returned (.int .i64 (rd.length : Int)) ∧ w = w' := by
  obtain ⟨aR, cR, rfl, _⟩ := h.rows.form
  have c1 := h.c1
  clear h
  go_enter Try.func38, Try.ntmps38
  go_wp2
  go_ret
  exact ⟨rfl, rfl⟩

set_option maxRecDepth 100000 in
theorem rrows_no (h : Both wB X mv ms ss X2 sv ra rd w G rv) (hsh : OwnShps wB (X2 + 1) sv ss) (m : Int) (hm : m < 0 ∨ (ss.length : Int) ≤ m) : Calls Try.prog 56 #[.pointer (some ⟨X2, 0, none⟩), .int .i64 m] w (TupIs [] 2 w) := by
  obtain ⟨aS, cS, rfl, _⟩ := hsh.at.form
  have c0 := h.c0
  clear h hsh
  by_cases h0 : m < 0
  · have hd : decide (m < 0) = true := decide_eq_true h0
    clear hm
    go_enter Try.func56, Try.ntmps56
    go_wp2
    go_ret2
    exact ⟨_, rfl, OwnInts.nil _ _, Below.refl _ _⟩
  · have hd : decide (m < 0) = false := decide_eq_false h0
    have hm2 : (ss.length : Int) ≤ m := hm.resolve_left h0
    have hd2 : decide (m ≥ (ss.length : Int)) = true := decide_eq_true hm2
    clear hm
    go_enter Try.func56, Try.ntmps56
    go_wp2
    go_ret2
    exact ⟨_, rfl, OwnInts.nil _ _, Below.refl _ _⟩

set_option maxRecDepth 100000 in
set_option maxHeartbeats 6400000 in
theorem rrows_yes (h : Both wB X mv ms ss X2 sv ra rd w G rv) (hsh : OwnShps wB (X2 + 1) sv ss) (hok : Okays ss) (hn : rd.length ≤ 4398046510976) (hrl : ∀ r, r ∈ rd → r.cells.length ≤ 17592186044400) {m : Nat} {s : Shp} (hs : ss[m]? = some s) :
    Calls Try.prog 56 #[.pointer (some ⟨X2, 0, none⟩), .int .i64 (m : Int)] w (TupIs (nums s rd) 0 w) := by
  obtain ⟨i3, qi, q0, q1, q2⟩ := info_parts Try.info3
  obtain ⟨aR, cR, rfl, hRF⟩ := h.rows.form
  obtain ⟨aS, cS, rfl, hSF⟩ := hsh.at.form
  have hml : m < ss.length := (List.getElem?_eq_some_iff.1 hs).1
  obtain ⟨gS, oS, rfl⟩ := hSF (ne_of_lt_len hml)
  have HB := Lib.hid h
  have HSW := Lib.hid (h.shps hsh)
  have HRW := Lib.hid h.rows.own
  have HRF := Lib.hid hRF
  have HRL := Lib.hid hrl
  have HSI := Lib.hid hs
  have hsok := hok s (List.mem_of_getElem? hs)
  have c0 := h.c0
  have hd : decide ((m : Int) < 0) = false := decide_eq_false (by omega)
  have hd2 : decide (ss.length ≤ m) = false := decide_eq_false (by omega)
  have m0 : (0 : Int) ≤ (m : Int) := Int.natCast_nonneg _
  have m1 : (m : Int) < (ss.length : Int) := by omega
  clear h hsh hRF hSF hrl hs hok
  go_enter Try.func56, Try.ntmps56
  go_wp2
  go_loopw [6, 7] (fun q k wr => ∃ (o : Value) (i : Nat), o = q ∧ k = .int .i64 (i : Int) ∧ i ≤ rd.length ∧ Hid (Below w.heap.size w wr) ∧ OwnInts wr w.heap.size o (nums s (rd.take i))) (fun _ k _ => rd.length - (intOf k).toNat)
  case atStart => exact ⟨_, 0, rfl, rfl, Nat.zero_le _, Lib.hid (Below.refl _ _), OwnInts.nil _ _⟩
  case round =>
    obtain ⟨v, i, rfl, rfl, hil, NX, hown⟩ := hrel
    have hz := NX.out.size
    have c0 := (HB.out.up NX.out).c0
    have c1 := (HB.out.up NX.out).c1
    have HW := Lib.hid hown
    clear hown
    by_cases h4 : i < rd.length
    · obtain ⟨r, hr⟩ : ∃ r, rd[i]? = some r := ⟨rd[i]'h4, List.getElem?_eq_getElem h4⟩
      obtain ⟨gR, rfl⟩ := HRF.out (fun e => by rw [e] at hr; cases hr)
      obtain ⟨au, cu, hel, _⟩ := OwnRws.el (G := fun _ => 0) HRW.out (fun _ _ => by decide) hr
      have E8 := Lib.hid (hel wr (Turned.of_below NX.out))
      obtain ⟨ax, cx, ex⟩ := ShpsAt.el (j := m) ((HSW.out.up NX.out).at) (Nat.le_refl _) HSI.out
      have EX := Lib.hid ex
      have hrl := HRL.out r (List.mem_of_getElem? hr)
      have HNX := Lib.hid (idx_next (f := fitR s) hr)
      obtain ⟨fb, hfb⟩ : ∃ fb, fb = fitsB s r.pred r.cells := ⟨_, rfl⟩
      have HFB := Lib.hid hfb
      have hnl : (nums s (rd.take i)).length ≤ i := Nat.le_trans (idx_length _) (by rw [List.length_take]; omega)
      obtain ⟨acc, hacc⟩ : ∃ acc, acc = nums s (rd.take i) := ⟨_, rfl⟩
      rw [← hacc] at HW hnl
      have HAC := Lib.hid hacc
      have HX2 := Lib.hid (HB.out.up NX.out).x2lt
      have d0 := EX.out.c0
      have d1 := EX.out.c1
      have d2 := E8.out.c0
      have d3 := E8.out.c1
      have j0 : (0 : Int) ≤ (i : Int) := Int.natCast_nonneg _
      have j1 : (i : Int) < (rd.length : Int) := by omega
      clear hfb hel ex hr hacc
      go_wp2_with fail
      go_region_held3 (fun w' => w'.cell? ⟨X2, 0, none⟩ = some (.slice (some ⟨gS, oS, none⟩) ss.length cS) ∧ w'.cell? ⟨X2, 1, none⟩ = some (.slice (some ⟨gR, 0, none⟩) rd.length cR) ∧ w'.cell? ⟨gS, oS + m * 2, none⟩ = some (.int .i64 s.pred) ∧ w'.cell? ⟨gS, oS + m * 2 + 1, none⟩ = some (.slice ax s.cells.length cx) ∧ w'.cell? ⟨gR, i * 2, none⟩ = some (.int .i64 r.pred) ∧ w'.cell? ⟨gR, i * 2 + 1, none⟩ = some (.slice au r.cells.length cu))
        (first | exact ⟨c0, c1, d0, d1, d2, d3⟩ | exact ⟨k0, k1, m0, m1, m2, m3⟩)
        (first
          | (go_at_call 20; refine (refFits_any s _ r.pred r.cells _ _ ⟨_, rfl, by exact EX.out.ints⟩ hsok.1 (by exact E8.out.ints) (by omega)).mono ?_; rintro e w8 ⟨rfl, hb8'⟩; rw [← HFB.out]; have hb8 : Below wr.heap.size wr w8 := ⟨hb8'.os, hb8'.tape, hb8'.output, hb8'.size, hb8'.block⟩; clear hb8'; have X8 := Lib.hid (EX.out.below hb8); have R8 := Lib.hid (E8.out.below hb8); have k0 := below_cells hb8 HX2.out c0; have k1 := below_cells hb8 HX2.out c1; have m0 := X8.out.c0; have m1 := X8.out.c1; have m2 := R8.out.c0; have m3 := R8.out.c1))
      have NY8 := Lib.hid (NX.out.trans (hb8.mono hz))
      have HW8 := Lib.hid (HW.out.up hb8)
      have hy8 := NY8.out.size
      clear d0 d1 d2 d3 m0 m1 m2 m3 k0 k1 c0 c1
      cases fb with
      | false =>
        have HN : Hid (nums s (rd.take (i + 1)) = acc) := by
          have := HNX.out
          rw [if_neg (show ¬ fitR s r = true by show ¬ fitsB s r.pred r.cells = true; rw [← HFB.out]; decide), List.append_nil] at this
          rw [HAC.out]; exact this
        go_wp2
        go_roundw
        case rel => exact ⟨_, i + 1, rfl, by go_num, by omega, NY8, by rw [HN.out]; exact HW8.out⟩
        case measure => simp only [intOf]; omega
      | true =>
        have HN : Hid (nums s (rd.take (i + 1)) = acc ++ [(i : Int)]) := by
          have := HNX.out
          rw [if_pos (show fitR s r = true from HFB.out.symm)] at this
          rw [HAC.out]; exact this
        go_wp2_with (at_builtin; refine wpList_append_own _ rfl _ _ 25 rfl w.heap.size 3 i3 (.int .i64 0) 1 8 Try.underlying25 qi q0 q1 q2 rfl (by decide) v acc.length (lits acc) rfl (World.ownsRow.alloc HW8.out (.cells #[.int .i64 (i : Int)] 3)) ⟨w8.heap.size, 0, none⟩ 1 1 [.int .i64 (i : Int)] rfl rfl (cell_one_new _ _ _) (one_i64 _) (by unfold maxLen; omega) (by omega) (by simp; omega) ?_; intro v' w11 hown' hgrow hnl2)
        have HR1 : Hid (OwnInts w11 w.heap.size v' (acc ++ [(i : Int)])) := by
          unfold OwnInts Hid; rw [lits_snoc, List.length_append, List.length_singleton]; exact hown'
        have NB := Lib.hid ((NY8.out.alloc hy8 _).grown hgrow (by simp; omega) (fun k hk => (HW8.out.lt k hk).1))
        clear hown' hgrow hnl2
        go_roundw
        case rel => exact ⟨_, i + 1, rfl, by go_num, by omega, NB, by rw [HN.out]; exact HR1.out⟩
        case measure => simp only [intOf]; omega
    · have e : i = rd.length := by omega
      have HF : Hid (OwnInts wr w.heap.size v (nums s rd)) := by
        have := HW.out
        rw [e, List.take_length] at this
        exact this
      clear e
      go_wp2
      go_ret2
      exact ⟨_, rfl, HF.out, NX.out⟩

set_option maxRecDepth 100000 in
theorem rundo_no (h : Both wB X mv ms ss X2 sv ra rd w G rv) (m : Int) (hm : m < 0 ∨ (rd.length : Int) < m) : Calls Try.prog 57 #[.pointer (some ⟨X2, 0, none⟩), .int .i64 m] w fun e w' => e = .returned (.int .i64 2) ∧ w = w' := by
  obtain ⟨aR, cR, rfl, _⟩ := h.rows.form
  have c1 := h.c1
  clear h
  by_cases h0 : m < 0
  · have hd : decide (m < 0) = true := decide_eq_true h0
    clear hm
    go_enter Try.func57, Try.ntmps57
    go_wp2
    go_ret
    exact ⟨rfl, rfl⟩
  · have hd : decide (m < 0) = false := decide_eq_false h0
    have hm2 : (rd.length : Int) < m := hm.resolve_left h0
    have hd2 : decide (m > (rd.length : Int)) = true := decide_eq_true hm2
    clear hm
    go_enter Try.func57, Try.ntmps57
    go_wp2
    go_ret
    exact ⟨rfl, rfl⟩

def RUndoIs (wB : World) (X : Nat) (mv : Value) (ms : List Nat) (ss : List Shp) (X2 : Nat) (sv : Value) (ra rd : List Shp) (w : World) (G : Nat → Nat) (rv : Value) (m : Nat) (e : Ending) (w' : World) : Prop :=
  ∃ rv', e = .returned (.int .i64 0) ∧ Both wB X mv ms ss X2 sv ra (rd.take m) w' G rv' ∧ Chg X2 rv w w'

set_option maxRecDepth 100000 in
set_option maxHeartbeats 1600000 in
theorem rundo_yes (h : Both wB X mv ms ss X2 sv ra rd w G rv) (hn : rd.length ≤ 4398046510976) {m : Nat} (hm : m ≤ rd.length) : Calls Try.prog 57 #[.pointer (some ⟨X2, 0, none⟩), .int .i64 (m : Int)] w (RUndoIs wB X mv ms ss X2 sv ra rd w G rv m) := by
  obtain ⟨i33, ri, r0, r1, r2⟩ := info_parts Try.info33
  obtain ⟨aR, cR, rfl, hRF⟩ := h.rows.form
  obtain ⟨vs, hvl, ho, hz, hi⟩ := h.rows
  have HB := Lib.hid h
  have HO := Lib.hid ho
  have HI := Lib.hid hi
  have c1 := h.c1
  have k1 := (h.alloc (.cells #[] 33)).c1
  have hd : decide ((m : Int) < 0) = false := decide_eq_false (by omega)
  have hd2 : decide ((m : Int) > (rd.length : Int)) = false := decide_eq_false (by omega)
  have hcr : rd.length ≤ cR := by
    rcases ho.2 with ⟨h1, h2⟩ | ⟨g, cap, cur, h1, _, _, h2, _⟩
    · simp only [Value.slice.injEq] at h1; omega
    · simp only [Value.slice.injEq] at h1; omega
  have hmc : (m : Int) ≤ (cR : Int) := by omega
  clear h ho hi hz
  rcases aR with _ | ad
  · have h0 : rd.length = 0 := by
      rcases Nat.eq_zero_or_pos rd.length with h1 | h1
      · exact h1
      · obtain ⟨g, hg⟩ := hRF (fun e => by rw [e] at h1; simp at h1)
        cases hg
    have hc0 : cR = 0 := by
      rcases HO.out.2 with ⟨h1, _⟩ | ⟨g, cap, cur, h1, _⟩
      · simp only [Value.slice.injEq] at h1; exact h1.2.2
      · simp at h1
    have hm0 : m = 0 := by omega
    subst hm0 hc0
    have kf := (HB.out.alloc (.cells #[] 33)).f1
    have HC := Lib.hid (HB.out.cut (m := 0) (w2 := w.alloc (.cells #[] 33)) (rv' := .slice (some ⟨w.heap.size, 0, none⟩) 0 0) (Nat.zero_le _) hvl HI.out (up_alloc _ _) (by rw [Nat.zero_mul, List.take_zero]; exact World.ownsRow_made w #[] 0 (Nat.le_refl _) (by decide) rfl))
    go_enter Try.func57, Try.ntmps57
    go_wp2
    go_ret
    exact ⟨_, rfl, HC.out⟩
  · obtain ⟨g, hg⟩ : ∃ g, ad = ⟨g, 0, none⟩ := by
      rcases Joins.ownsRow_forms HO.out with ⟨h1, _⟩ | ⟨g, cap, h1⟩
      · simp at h1
      · simp only [Value.slice.injEq, Option.some.injEq] at h1; exact ⟨g, h1.1⟩
    subst hg
    have HNW : Hid (∀ j u, ((flat rd vs).take (m * 2))[j]? = some u → (w.alloc (.cells #[] 33)).cell? ((⟨g, 0, none⟩ : Addr).add j) = some u) := fun j u hj => by
      refine (World.ownsRow.alloc HO.out (.cells #[] 33)).cells (g := g) rfl j u ?_
      rw [List.getElem?_take] at hj
      split at hj
      · exact hj
      · cases hj
    have HONE : Hid (∀ u ∈ (flat rd vs).take (m * 2), u.oneCell' = true) := fun u hu => flat_one rd vs (fun j s x h1 h2 => by
      obtain ⟨a, n, c, rfl⟩ := (HI.out j s x h1 h2).1.form
      rfl) u (List.mem_of_mem_take hu)
    have hln : ((flat rd vs).take (m * 2)).length = m * 2 := by rw [List.length_take, flat_length _ _ hvl]; omega
    have hk1 := (HB.out.alloc (.cells #[] 33))
    have HK := Lib.hid hk1
    clear hk1
    obtain ⟨fl, hfl⟩ : ∃ fl, fl = (flat rd vs).take (m * 2) := ⟨_, rfl⟩
    rw [← hfl] at HNW HONE hln
    have HFL := Lib.hid hfl
    clear hfl
    go_enter Try.func57, Try.ntmps57
    go_wp2_with (at_builtin; refine wpList_append_own _ rfl _ _ 30 rfl w.heap.size 33 i33 (.agg #[.int .i64 0, .slice none 0 0]) 2 32 Try.underlying30 ri r0 r1 r2 rfl (by decide) (.slice (some ⟨w.heap.size, 0, none⟩) 0 0) 0 [] rfl (World.ownsRow_made w #[] 0 (Nat.le_refl _) (by decide) rfl) ⟨g, 0, none⟩ m cR fl rfl hln HNW.out HONE.out (by unfold maxLen; omega) (by omega) (by simp) ?_; intro v' w1 hown' hgrow hnl; obtain ⟨g', c', rfl⟩ := form_of hown' (fun e => by have := (hnl.1 e).1; simp at this); simp only [Nat.zero_add, List.nil_append] at hown' ⊢; have hgrow' : (w.alloc (.cells #[] 33)).grownBy w1 (some w.heap.size) := ⟨hgrow.os, hgrow.tape, hgrow.output, hgrow.size, hgrow.block⟩; have hb1 : Below w.heap.size w w1 := (up_alloc w (.cells #[] 33)).grown hgrow' (by simp) (fun k hk => by simp at hk; omega); have k2 := (HB.out.up hb1).c1; have kf := (HB.out.up hb1).f1; have HC := Lib.hid (HB.out.cut (m := m) (w2 := w1) (rv' := .slice (some ⟨g', 0, none⟩) m c') hm hvl HI.out hb1 (by rw [← HFL.out]; exact hown')))
    go_ret
    exact ⟨_, rfl, HC.out⟩
end

end Go.Proofs.Ytlandkindbmbfaa
