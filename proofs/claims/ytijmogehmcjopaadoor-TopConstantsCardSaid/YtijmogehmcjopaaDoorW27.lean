/-
  What the law's walk is told of the table, its own list and its boxes. Conditions: none beyond those that each lemma states.
-/
import Derived.Test.YtijmogehmcjopaaDoorW26
namespace Go.Proofs.YtijmogehmcjopaaDoor
open Go.RowKit Go.Maps Ct

/-- The table (idsT) and the law's own list (idsL), beside each other. -/
structure St (w0 : World) (X M : Nat) (idsT idsL : List Cn) (o v : Value) (w : World) : Prop where
  tbl : Tbl w0.heap.size X M v idsT w
  own : w.ownsRow w0.heap.size 26 3 o idsL.length (flatC idsL)
  sep : ∀ k, o.ownBlock = some k → v.ownBlock ≠ some k
  ox : o.ownBlock ≠ some X
  om : o.ownBlock ≠ some M
  bel : Below w0.heap.size w0 w
/-- A box of a constant. -/
structure Bx (b : Nat) (c : Cn) (X M : Nat) (o v : Value) (w : World) : Prop where
  at' : w.heap[b]? = some (.cells #[.int .i64 c.kind, .int .i64 c.int, .string ⟨c.text.toArray⟩] 26)
  bx : b ≠ X
  bm : b ≠ M
  bv : v.ownBlock ≠ some b
  bo : o.ownBlock ≠ some b
section
variable {w0 w w' : World} {X M b : Nat} {idsT idsL : List Cn} {o v : Value} {c : Cn}
theorem St.up (h : St w0 X M idsT idsL o v w) (k : Below w.heap.size w w') : St w0 X M idsT idsL o v w' :=
  ⟨h.tbl.up k, h.own.kept (Below.grow k) (by cases o.ownBlock <;> simp), h.sep, h.ox, h.om, h.bel.trans (k.mono h.bel.size)⟩
theorem Bx.up (h : Bx b c X M o v w) (k : Below w.heap.size w w') : Bx b c X M o v w' := ⟨(k.block b (heap_lt h.at')).trans h.at', h.bx, h.bm, h.bv, h.bo⟩
theorem St.box (h : St w0 X M idsT idsL o v w) (c : Cn) : Bx w.heap.size c X M o v (w.alloc (.cells #[.int .i64 c.kind, .int .i64 c.int, .string ⟨c.text.toArray⟩] 26)) :=
  ⟨heap_alloc_new w _, by have := heap_lt h.tbl.blk; omega, by have := h.tbl.map.lt; omega, fun e => by have := (h.tbl.own.lt _ e).2; omega, fun e => by have := (h.own.lt _ e).2; omega⟩
theorem St.alloc (h : St w0 X M idsT idsL o v w) (x : Obj) : St w0 X M idsT idsL o v (w.alloc x) := h.up (up_alloc w x)
theorem Bx.alloc (h : Bx b c X M o v w) (x : Obj) : Bx b c X M o v (w.alloc x) := h.up (up_alloc w x)
theorem St.cells (h : St w0 X M idsT idsL o v w) : True := trivial
/-- The law's list grows. -/
theorem St.push {o' : Value} {l : List Cn} (h : St w0 X M idsT idsL o v w) (hg : w.grownBy w' o.ownBlock) (ho : w'.ownsRow w0.heap.size 26 3 o' l.length (flatC l)) (hat : o'.ownBlock = o.ownBlock ∨ o'.ownBlock = some w.heap.size) : St w0 X M idsT l o' v w' := by
  refine ⟨⟨(hg.block X (heap_lt h.tbl.blk) h.ox.symm).trans h.tbl.blk, h.tbl.own.kept hg ?_, h.tbl.map.same (hg.block M h.tbl.map.lt h.om.symm), h.tbl.ox, h.tbl.om, h.tbl.xm, h.tbl.lx, h.tbl.lm⟩, ho, fun k e => ?_, ?_, ?_, h.bel.grown hg h.bel.size (fun k e => (h.own.lt k e).1)⟩
  · cases hv : v.ownBlock with
    | none => exact .inl rfl
    | some k => exact .inr (fun e => h.sep k e.symm hv)
  · rcases hat with e2 | e2
    · rw [e2] at e; exact h.sep k e
    · rw [e2] at e; intro e3; have := (h.tbl.own.lt k e3).2; have := Option.some.inj e; omega
  · rcases hat with e2 | e2
    · rw [e2]; exact h.ox
    · rw [e2]; intro e; have := Option.some.inj e; have := heap_lt h.tbl.blk; omega
  · rcases hat with e2 | e2
    · rw [e2]; exact h.om
    · rw [e2]; intro e; have := Option.some.inj e; have := h.tbl.map.lt; omega
theorem Bx.push {o' : Value} (h : Bx b c X M o v w) (hg : w.grownBy w' o.ownBlock) (hat : o'.ownBlock = o.ownBlock ∨ o'.ownBlock = some w.heap.size) : Bx b c X M o' v w' := by
  refine ⟨(hg.block b (heap_lt h.at') h.bo.symm).trans h.at', h.bx, h.bm, h.bv, ?_⟩
  rcases hat with e2 | e2
  · rw [e2]; exact h.bo
  · rw [e2]; intro e; have := Option.some.inj e; have := heap_lt h.at'; omega
/-- The table takes a constant in. -/
theorem St.intern {v' : Value} {l : List Cn} (h : St w0 X M idsT idsL o v w) (hc : Ch X M v w w') (ht : Tbl w0.heap.size X M v' l w') (hat : v'.ownBlock = v.ownBlock ∨ ∃ k, v'.ownBlock = some k ∧ w.heap.size ≤ k) : St w0 X M l idsL o v' w' := by
  refine ⟨ht, ?_, fun k e => ?_, h.ox, h.om, h.bel.trans (hc.below h.tbl h.bel.size)⟩
  · refine ⟨h.own.1, ?_⟩
    rcases h.own.2 with hn | ⟨g, cap, cur, e, h1, h2, r⟩
    · exact .inl hn
    · refine .inr ⟨g, cap, cur, e, h1, ?_, r⟩
      have hg : o.ownBlock = some g := by rw [e]; rfl
      exact (hc.old g (heap_lt h2) (fun e2 => h.ox (by rw [hg, e2])) (fun e2 => h.om (by rw [hg, e2])) (h.sep g hg)).trans h2
  · rcases hat with e2 | ⟨k2, e2, h2⟩
    · rw [e2]; exact h.sep k e
    · rw [e2]; intro e3; have := Option.some.inj e3; have := (h.own.lt k e).2; omega
theorem Bx.intern {v' : Value} (h : Bx b c X M o v w) (hc : Ch X M v w w') (hat : v'.ownBlock = v.ownBlock ∨ ∃ k, v'.ownBlock = some k ∧ w.heap.size ≤ k) : Bx b c X M o v' w' := by
  refine ⟨(hc.old b (heap_lt h.at') h.bx h.bm h.bv).trans h.at', h.bx, h.bm, ?_, h.bo⟩
  rcases hat with e2 | ⟨k2, e2, h2⟩
  · rw [e2]; exact h.bv
  · rw [e2]; intro e3; have := Option.some.inj e3; have := heap_lt h.at'; omega
end
theorem Tab.bel {w0 w : World} (h : Tab w0) (k : Below w0.heap.size w0 w) : Tab w := h.up k

/-- What the law's list and the table hold behind each constant. -/
structure Good (ids : List Cn) : Prop where
  nd : ids.Nodup
  ok : ∀ c ∈ ids, valid c = true ∧ InC c
  len : ids.length ≤ 65536
theorem Good.nil : Good [] := ⟨List.nodup_nil, fun c h => by simp at h, by simp⟩
theorem Good.snoc {ids : List Cn} {c : Cn} (h : Good ids) (hp : place ids c = none) (hv : valid c = true) (hc : InC c) (hl : ids.length < 65536) : Good (ids ++ [c]) := by
  refine ⟨?_, fun x hx => ?_, by simp; omega⟩
  · rw [List.nodup_append]
    refine ⟨h.nd, by simp, fun a ha b hb => ?_⟩
    simp at hb
    subst hb
    exact fun e => place_none hp (by rw [← e]; exact ha)
  · rcases List.mem_append.1 hx with h1 | h1
    · exact h.ok x h1
    · simp at h1; subst h1; exact ⟨hv, hc⟩
theorem Good.bad {ids : List Cn} {c : Cn} (h : Good ids) (hv : valid c = false) : place ids c = none := by
  cases hp : place ids c with
  | none => rfl
  | some i =>
    obtain ⟨hi, e⟩ := place_some hp
    have := (h.ok c (by rw [← e]; exact List.getElem_mem hi)).1
    rw [hv] at this; cases this
theorem place_first {ids : List Cn} {c : Cn} : ∀ {a : Nat} (ha : a < ids.length), ids[a] = c → (∀ j (hj : j < ids.length), j < a → ids[j] ≠ c) → place ids c = some a := by
  induction ids with
  | nil => intro a ha; simp at ha
  | cons x r ih =>
    intro a ha e hne
    unfold place
    cases a with
    | zero => rw [if_pos (by simpa using e)]
    | succ a =>
      have h0 : ¬ x = c := by have := hne 0 (by simp) (by omega); simpa using this
      rw [if_neg h0, ih (a := a) (by simpa using ha) (by simpa using e) (fun j hj hja => by have := hne (j + 1) (by simpa using hj) (by omega); simpa using this)]
      rfl
theorem place_nowhere {ids : List Cn} {c : Cn} (h : ∀ j (hj : j < ids.length), ids[j] ≠ c) : place ids c = none := by
  cases hp : place ids c with
  | none => rfl
  | some i => obtain ⟨hi, e⟩ := place_some hp; exact absurd e (h i hi)
theorem neq_cn (a b : Cn) (w : World) : (binOp BinOp.neq 26 (cnV a) (cnV b)).run Tryd.prog w = .ok (.bool (!decide (a = b))) w := by
  have h1 : decide (a = b) = (decide (a.kind = b.kind) && (decide (a.int = b.int) && decide (a.text = b.text))) := by
    rw [Bool.eq_iff_iff]
    simp only [Bool.and_eq_true, decide_eq_true_eq]
    constructor
    · intro h; subst h; exact ⟨rfl, rfl, rfl⟩
    · rintro ⟨h1, h2, h3⟩; cases a; cases b; simp only at h1 h2 h3; subst h1 h2 h3; rfl
  rw [h1]
  unfold cnV
  by_cases hk : a.kind = b.kind
  · by_cases hi : a.int = b.int
    · by_cases ht : a.text = b.text
      · simp [go_sem, hk, hi, ht]
      · simp [go_sem, hk, hi, ht]
    · simp [go_sem, hk, hi]
  · simp [go_sem, hk]
end Go.Proofs.YtijmogehmcjopaaDoor
