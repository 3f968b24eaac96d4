/-
  What the walks of the layer of shapes are told of lists of shapes in memory, read and owned; append at a step of a region that draws its order. No condition beyond those that each lemma states.
-/
import Derived.Test.YtlandkindbmbfaaW5
import Derived.Deep.RegionHeld3
import Derived.Deep.AppendLies
import Derived.Deep.DrawnRows
import Derived.Laws.AppendOwnNone
namespace Go.Proofs.Ytlandkindbmbfaa
open Go.RowKit Plain

/-- append at a step of a region that draws: something or nothing is appended, from a known address. -/
theorem step_append_own {P : Program} (w : World) {ops : Array Oper} {o : Oper} {a : Act} {K : Act → World → Prop} {Q : Exit → Act → World → Prop} {E : Prop} (hgd : o.guard = none) (s x : Operand) (t : TypeId)
    (ho : o.op = .call { callee := .builtin .append, args := #[s, x], argTypes := #[t, t] })
    (base : Nat) (e : TypeId) (i : TypeInfo) (z : Value) (size bytes : Nat) (ht : P.underlying t = some (.slice e)) (hi : P.info? e = some i) (hz : i.zero = some z)
    (hsize : i.size = size) (hby : i.bytes = bytes) (hzs : z.cells.size = size) (hsz : 0 < size)
    (v : Value) (n : Nat) (xs : List Value) (hs : a.eval s = v) (hown : w.ownsRow base e size v n xs)
    (ad : Addr) (m c : Nat) (news : List Value) (hx : a.eval x = .slice (some ad) m c) (hl : news.length = m * size) (hnews : ∀ j u, news[j]? = some u → w.cell? (ad.add j) = some u) (h1 : ∀ u ∈ news, u.oneCell' = true)
    (h63 : n + m ≤ maxLen) (hbytes : (n + m) * bytes ≤ 140737488355328) (hbase : base ≤ w.heap.size)
    (h : ∀ v' w', w'.ownsRow base e size v' (n + m) (xs ++ news) → w.grownBy w' v.ownBlock → (v' = .slice none 0 0 ↔ v = .slice none 0 0 ∧ m = 0) → K (a.put o.dst v') w') :
    if Region.wanted o (yielded ops a.tmps) = true then Oper.wp P o a w K Q else E := by
  have hw : Region.wanted o (yielded ops a.tmps) = true := by simp [Region.wanted, hgd]
  rw [if_pos hw]
  exact wp_append_own w s x t ho base e i z size bytes ht hi hz hsize hby hzs hsz v n xs hs hown ad m c news hx hl hnews h1 h63 hbytes hbase h

/-- The same where nothing is appended, out of nil. -/
theorem step_append_own_none {P : Program} (w : World) {ops : Array Oper} {o : Oper} {a : Act} {K : Act → World → Prop} {Q : Exit → Act → World → Prop} {E : Prop} (hgd : o.guard = none) (s x : Operand) (t : TypeId)
    (ho : o.op = .call { callee := .builtin .append, args := #[s, x], argTypes := #[t, t] })
    (base : Nat) (e : TypeId) (i : TypeInfo) (size : Nat) (ht : P.underlying t = some (.slice e)) (hi : P.info? e = some i)
    (v : Value) (n : Nat) (xs : List Value) (hs : a.eval s = v) (hown : w.ownsRow base e size v n xs) (hx : a.eval x = .slice none 0 0)
    (h : K (a.put o.dst v) w) :
    if Region.wanted o (yielded ops a.tmps) = true then Oper.wp P o a w K Q else E := by
  have hw : Region.wanted o (yielded ops a.tmps) = true := by simp [Region.wanted, hgd]
  rw [if_pos hw]
  have hrun := run_append_owned_none (P := P) (w := w) base t o.type e i size ht hi v n xs hown
  unfold Oper.wp
  simp [execOp, ho, resolve, invoke, builtin, hs, hx, hrun, Result.andThen]
  exact h

/-- nil means empty. -/
def Nilly (v : Value) : Prop := ∀ n c, v = .slice none n c → n = 0 ∧ c = 0

theorem IntsAt.heap {w w' : World} {B : Nat} {v : Value} {l : List Int} (h : IntsAt w B v l) (e : w'.heap = w.heap) : IntsAt w' B v l := by
  obtain ⟨a, cap, rfl, h⟩ := h
  refine ⟨a, cap, rfl, ?_⟩
  rcases h with rfl | ⟨g, off, rfl, hg, hc⟩
  · exact .inl rfl
  · exact .inr ⟨g, off, rfl, hg, fun j hj => (World.cell?_of_block (by rw [e])).trans (hc j hj)⟩
theorem addr_add (g off k : Nat) : (⟨g, off, none⟩ : Addr).add k = ⟨g, off + k, none⟩ := by
  unfold Addr.add; split
  · rename_i h; subst h; rfl
  · rfl
/-- The cells that an append of the whole list brings. -/
theorem IntsAt.news {w : World} {B : Nat} {ad : Addr} {n c : Nat} {l : List Int} (h : IntsAt w B (.slice (some ad) n c) l) : ∀ j u, (lits l)[j]? = some u → w.cell? (ad.add j) = some u := by
  intro j u hju
  obtain ⟨a, cap, e, h⟩ := h
  simp only [Value.slice.injEq] at e
  obtain ⟨rfl, rfl, rfl⟩ := e
  have hj : j < l.length := by
    rw [← lits_length]; exact (List.getElem?_eq_some_iff.1 hju).1
  rcases h with rfl | ⟨g, off, h1, _, hc⟩
  · simp at hj
  · obtain rfl := Option.some.inj h1
    rw [addr_add, hc j hj, ← hju, lits_get l j hj]
theorem lits_one (l : List Int) : ∀ u ∈ lits l, u.oneCell' = true := by intro u hu; simp [lits] at hu; obtain ⟨d, _, rfl⟩ := hu; rfl

/-! ### Lists of shapes -/
/-- A slice value that reads as the shapes ss, all below block B. -/
def ShpsAt (w : World) (B : Nat) (v : Value) (ss : List Shp) : Prop :=
  ∃ (a : Option Addr) (cap : Nat), v = .slice a ss.length cap ∧ (ss = [] ∨ ∃ g off, a = some ⟨g, off, none⟩ ∧ g < B ∧
    ∀ (j : Nat) (s : Shp), ss[j]? = some s → ∃ u, w.cell? ⟨g, off + j * 2, none⟩ = some (.int .i64 s.pred) ∧ w.cell? ⟨g, off + j * 2 + 1, none⟩ = some u ∧ IntsAt w B u s.cells ∧ Nilly u)
def Okays (ss : List Shp) : Prop := ∀ s, s ∈ ss → Okay s ∧ s.cells.length ≤ 17592186044400

theorem ShpsAt.below {w w' : World} {B : Nat} {v : Value} {ss : List Shp} (h : ShpsAt w B v ss) (hb : Below B w w') : ShpsAt w' B v ss := by
  obtain ⟨a, cap, rfl, h⟩ := h
  refine ⟨a, cap, rfl, ?_⟩
  rcases h with rfl | ⟨g, off, rfl, hg, hc⟩
  · exact .inl rfl
  · refine .inr ⟨g, off, rfl, hg, fun j s hj => ?_⟩
    obtain ⟨u, h1, h2, h3, h4⟩ := hc j s hj
    exact ⟨u, below_cells hb hg h1, below_cells hb hg h2, h3.below hb, h4⟩
theorem ShpsAt.mono {w : World} {B B' : Nat} {v : Value} {ss : List Shp} (h : ShpsAt w B v ss) (hb : B ≤ B') : ShpsAt w B' v ss := by
  obtain ⟨a, cap, rfl, h⟩ := h
  refine ⟨a, cap, rfl, ?_⟩
  rcases h with rfl | ⟨g, off, rfl, hg, hc⟩
  · exact .inl rfl
  · refine .inr ⟨g, off, rfl, by omega, fun j s hj => ?_⟩
    obtain ⟨u, h1, h2, h3, h4⟩ := hc j s hj
    exact ⟨u, h1, h2, h3.mono hb, h4⟩

/-- The cells of a list of shapes whose cells' slices are vs. -/
def flat : List Shp → List Value → List Value
  | s :: ss, u :: vs => .int .i64 s.pred :: u :: flat ss vs
  | _, _ => []
theorem flat_length : ∀ (ss : List Shp) (vs : List Value), vs.length = ss.length → (flat ss vs).length = ss.length * 2
  | [], [], _ => rfl
  | s :: ss, u :: vs, h => by
    have := flat_length ss vs (by simpa using h)
    simp [flat, this]; omega
  | [], _ :: _, h => by simp at h
  | _ :: _, [], h => by simp at h
theorem flat_snoc : ∀ (ss : List Shp) (vs : List Value) (s : Shp) (u : Value), vs.length = ss.length → flat (ss ++ [s]) (vs ++ [u]) = flat ss vs ++ [.int .i64 s.pred, u]
  | [], [], _, _, _ => rfl
  | t :: ss, x :: vs, s, u, h => by
    have := flat_snoc ss vs s u (by simpa using h)
    simp [flat, this]
  | [], _ :: _, _, _, h => by simp at h
  | _ :: _, [], _, _, h => by simp at h
theorem flat_get : ∀ (ss : List Shp) (vs : List Value) (j : Nat) (s : Shp) (u : Value), ss[j]? = some s → vs[j]? = some u → (flat ss vs)[j * 2]? = some (.int .i64 s.pred) ∧ (flat ss vs)[j * 2 + 1]? = some u
  | [], _, _, _, _, h, _ => by simp at h
  | _ :: _, [], _, _, _, _, h => by simp at h
  | t :: ss, x :: vs, 0, s, u, h1, h2 => by simp at h1 h2; subst h1 h2; exact ⟨rfl, rfl⟩
  | t :: ss, x :: vs, j + 1, s, u, h1, h2 => by
    have := flat_get ss vs j s u (by simpa using h1) (by simpa using h2)
    rw [show (j + 1) * 2 = j * 2 + 1 + 1 by omega]
    exact this

/-- A list of shapes of the call's own, each with cells of its own, all from block B on. -/
def OwnShps (w : World) (B : Nat) (v : Value) (ss : List Shp) : Prop :=
  ∃ vs : List Value, vs.length = ss.length ∧ w.ownsRow B 27 2 v ss.length (flat ss vs) ∧ ∀ (j : Nat) (s : Shp) (u : Value), ss[j]? = some s → vs[j]? = some u → OwnInts w B u s.cells
theorem OwnShps.nil (w : World) (B : Nat) : OwnShps w B (.slice none 0 0) [] := ⟨[], rfl, World.ownsRow_nil _ _ _ _, fun j s u h => by simp at h⟩
theorem OwnInts.nilly {w : World} {B : Nat} {v : Value} {l : List Int} (h : OwnInts w B v l) : Nilly v := by
  intro n c e
  rcases Joins.ownsRow_forms h with ⟨rfl, h0⟩ | ⟨g, cap, rfl⟩
  · simp only [Value.slice.injEq] at e; exact ⟨e.2.1.symm, e.2.2.symm⟩
  · simp at e
theorem OwnShps.at {w : World} {B : Nat} {v : Value} {ss : List Shp} (h : OwnShps w B v ss) : ShpsAt w w.heap.size v ss := by
  obtain ⟨vs, hl, ho, hi⟩ := h
  rcases Joins.ownsRow_forms ho with ⟨rfl, h0⟩ | ⟨g, cap, rfl⟩
  · obtain rfl := List.length_eq_zero_iff.1 h0
    exact ⟨none, 0, rfl, .inl rfl⟩
  · refine ⟨_, cap, rfl, .inr ⟨g, 0, rfl, (ho.lt g rfl).2, fun j s hj => ?_⟩⟩
    have hj' : j < ss.length := (List.getElem?_eq_some_iff.1 hj).1
    obtain ⟨u, hu⟩ : ∃ u, vs[j]? = some u := ⟨vs[j]'(by omega), List.getElem?_eq_getElem (by omega)⟩
    have hf := flat_get ss vs j s u hj hu
    have ho2 := hi j s u hj hu
    refine ⟨u, ?_, ?_, ho2.at, ho2.nilly⟩
    · rw [Nat.zero_add, World.ownsRow.cellAt ho (j * 2) (by omega)]; exact hf.1
    · rw [Nat.zero_add, World.ownsRow.cellAt ho (j * 2 + 1) (by omega)]; exact hf.2

/-- What is owned with elements of another type lies in another block. -/
theorem types_apart {w : World} {B B' : Nat} {e e' : TypeId} {size size' : Nat} {v v' : Value} {n n' : Nat} {xs xs' : List Value} (h : w.ownsRow B e size v n xs) (h' : w.ownsRow B' e' size' v' n' xs') (he : e ≠ e') :
    v.ownBlock = none ∨ v.ownBlock ≠ v'.ownBlock := by
  rcases h.2 with ⟨rfl, _⟩ | ⟨g, cap, cur, rfl, _, hg, _⟩
  · exact .inl rfl
  · rcases h'.2 with ⟨rfl, _⟩ | ⟨g', cap', cur', rfl, _, hg', _⟩
    · exact .inr (by simp [Value.ownBlock])
    · refine .inr fun e2 => he ?_
      have e3 : g = g' := by simpa [Value.ownBlock] using e2
      subst e3
      rw [hg] at hg'
      simp only [Option.some.injEq, Obj.cells.injEq] at hg'
      exact hg'.2.1

theorem lt_of_own {w : World} {B : Nat} {e : TypeId} {size : Nat} {v : Value} {n : Nat} {xs : List Value} (h : w.ownsRow B e size v n xs) {r : Option Nat} (hr : r = none ∨ ∃ k, r = some k ∧ w.heap.size ≤ k) : v.ownBlock = none ∨ v.ownBlock ≠ r := by
  rcases hv : v.ownBlock with _ | k
  · exact .inl rfl
  · right
    have := (h.lt k hv).2
    rcases hr with rfl | ⟨k', rfl, hk'⟩
    · simp
    · simp; omega

/-- The list of shapes outlives what grows elsewhere. -/
theorem OwnShps.kept {w w' : World} {B : Nat} {v : Value} {ss : List Shp} {r : Option Nat} (h : OwnShps w B v ss) (hr : r = none ∨ ∃ k, r = some k ∧ w.heap.size ≤ k) (hg : w.grownBy w' r) : OwnShps w' B v ss := by
  obtain ⟨vs, hl, ho, hi⟩ := h
  exact ⟨vs, hl, ho.kept hg (lt_of_own ho hr), fun j s u h1 h2 => (hi j s u h1 h2).kept hg (lt_of_own (hi j s u h1 h2) hr)⟩
theorem OwnShps.heap {w w' : World} {B : Nat} {v : Value} {ss : List Shp} (h : OwnShps w B v ss) (e : w'.heap = w.heap) : OwnShps w' B v ss := by
  obtain ⟨vs, hl, ho, hi⟩ := h
  refine ⟨vs, hl, ?_, fun j s u h1 h2 => ?_⟩
  · unfold World.ownsRow at *; rw [e]; exact ho
  · have := hi j s u h1 h2; unfold OwnInts World.ownsRow at *; rw [e]; exact this

/-- One shape more, whose cells are the call's own. -/
theorem OwnShps.snoc {w w2 : World} {B : Nat} {v v' u : Value} {ss : List Shp} {s : Shp} {vs : List Value} (hl : vs.length = ss.length) (ho : w.ownsRow B 27 2 v ss.length (flat ss vs))
    (hi : ∀ (j : Nat) (s : Shp) (u : Value), ss[j]? = some s → vs[j]? = some u → OwnInts w B u s.cells) (hu : OwnInts w B u s.cells)
    (hown2 : w2.ownsRow B 27 2 v' (ss.length + 1) (flat ss vs ++ [.int .i64 s.pred, u])) (hg : w.grownBy w2 v.ownBlock) : OwnShps w2 B v' (ss ++ [s]) := by
  refine ⟨vs ++ [u], by simp [hl], ?_, fun j t x h1 h2 => ?_⟩
  · rw [flat_snoc _ _ _ _ hl, List.length_append, List.length_singleton]; exact hown2
  · have hj : j < (ss ++ [s]).length := (List.getElem?_eq_some_iff.1 h1).1
    rw [List.length_append, List.length_singleton] at hj
    by_cases e : j < ss.length
    · rw [List.getElem?_append_left e] at h1
      rw [List.getElem?_append_left (by omega)] at h2
      have := hi j t x h1 h2
      exact World.ownsRow.kept this hg (types_apart this ho (by decide))
    · obtain rfl : j = ss.length := by omega
      have e1 : (ss ++ [s])[ss.length]? = some s := by simp
      have e2 : (vs ++ [u])[ss.length]? = some u := by rw [← hl]; simp
      rw [e1] at h1; rw [e2] at h2
      obtain rfl := Option.some.inj h1
      obtain rfl := Option.some.inj h2
      exact World.ownsRow.kept hu hg (types_apart hu ho (by decide))

end Go.Proofs.Ytlandkindbmbfaa
