/-
  The walk of TopMemory. Conditions: sizes within the form's own reach.
-/
import Derived.Test.YtmkoejpdoeblkaaW16
import Derived.ArgAppend
namespace Go.Proofs.Ytmkoejpdoeblkaa
open Go.RowKit Pl

/-- A step of a script: its kind, its rows, its number. -/
structure Pt where
  kind : Int
  rows : List Rw
  num : Int
def PutsIn (w : World) (v : Value) (ps : List Pt) : Prop :=
  ∃ (a : Option Addr) (cap : Nat), v = .slice a ps.length cap ∧ (ps = [] ∨ ∃ g off, a = some ⟨g, off, none⟩ ∧ g < w.heap.size ∧
    ∀ (j : Nat) (p : Pt), ps[j]? = some p → ∃ u, w.cell? ⟨g, off + j * 3, none⟩ = some (.int .i64 p.kind) ∧ w.cell? ⟨g, off + j * 3 + 1, none⟩ = some u ∧ w.cell? ⟨g, off + j * 3 + 2, none⟩ = some (.int .i64 p.num) ∧ RowsIn w All u p.rows)
theorem PutsIn.below {w w' : World} {v : Value} {ps : List Pt} (h : PutsIn w v ps) (hb : Below w.heap.size w w') : PutsIn w' v ps := by
  obtain ⟨a, cap, rfl, h⟩ := h
  refine ⟨a, cap, rfl, ?_⟩
  rcases h with rfl | ⟨g, off, rfl, hl, hc⟩
  · exact .inl rfl
  · refine .inr ⟨g, off, rfl, Nat.lt_of_lt_of_le hl hb.size, fun j r hj => ?_⟩
    obtain ⟨u, h1, h2, h3, h4⟩ := hc j r hj
    exact ⟨u, (hb.cell (p := ⟨g, _, none⟩) hl).trans h1, (hb.cell (p := ⟨g, _, none⟩) hl).trans h2, (hb.cell (p := ⟨g, _, none⟩) hl).trans h3, h4.below hb⟩
theorem PutsIn.form {w : World} {v : Value} {ps : List Pt} (h : PutsIn w v ps) : ∃ a cap, v = .slice a ps.length cap ∧ (ps ≠ [] → ∃ g off, a = some ⟨g, off, none⟩) := by
  obtain ⟨a, cap, rfl, h⟩ := h
  refine ⟨a, cap, rfl, fun hne => ?_⟩
  rcases h with rfl | ⟨g, off, rfl, _⟩
  · exact absurd rfl hne
  · exact ⟨g, off, rfl⟩
theorem PutsIn.at {w : World} {g off cap : Nat} {ps : List Pt} (h : PutsIn w (.slice (some ⟨g, off, none⟩) ps.length cap) ps) {j : Nat} {p : Pt} (hj : ps[j]? = some p) :
    ∃ u, w.cell? ⟨g, off + j * 3, none⟩ = some (.int .i64 p.kind) ∧ w.cell? ⟨g, off + j * 3 + 1, none⟩ = some u ∧ w.cell? ⟨g, off + j * 3 + 2, none⟩ = some (.int .i64 p.num) ∧ RowsIn w All u p.rows := by
  obtain ⟨a, c, e, h⟩ := h
  simp only [Value.slice.injEq] at e
  obtain ⟨rfl, _, rfl⟩ := e
  rcases h with rfl | ⟨g', off', e, hl, hc⟩
  · simp at hj
  · simp only [Option.some.injEq, Addr.mk.injEq, and_true] at e
    obtain ⟨rfl, rfl⟩ := e
    exact hc j p hj
def sumR : List Pt → Nat
  | [] => 0
  | p :: t => p.rows.length + sumR t
theorem sumR_take : ∀ (ps : List Pt) (i : Nat) (p : Pt), ps[i]? = some p → sumR (ps.take (i + 1)) = sumR (ps.take i) + p.rows.length
  | [], i, p, h => by simp at h
  | x :: t, 0, p, h => by simp at h; subst h; simp [sumR]
  | x :: t, i + 1, p, h => by
    have := sumR_take t i p (by simpa using h)
    simp only [List.take_succ_cons, sumR]
    omega
theorem sumR_le : ∀ (ps : List Pt) (i : Nat), sumR (ps.take i) ≤ sumR ps
  | [], i => by simp [sumR]
  | x :: t, 0 => by simp [sumR]
  | x :: t, i + 1 => by
    have := sumR_le t i
    simp only [List.take_succ_cons, sumR]
    omega
structure okPt (p : Pt) : Prop where
  num : I64 p.num
  rows : okRows p.rows
/-- The law's own list. -/
structure ListF (w : World) (G : Nat → Rl) (B : Nat) (v : Value) (l : List Rw) (us : List Value) : Prop where
  ul : us.length = l.length
  ids : ∀ (j : Nat) (r : Rw) (u : Value), l[j]? = some r → us[j]? = some u → OwnD w (fun k => G k = .out ∧ B ≤ k) u r.2
  tag : ∀ k, v.ownBlock = some k → G k = .out ∧ B ≤ k ∧ k < w.heap.size ∧ ∃ c, w.heap[k]? = some (.cells c 34 (0, 0))
  row : w.ownsRow 0 34 2 v l.length (flat l us) ∨ ∃ g, v = .slice (some ⟨g, 0, none⟩) l.length l.length ∧ ∀ j u, (flat l us)[j]? = some u → w.cell? ⟨g, j, none⟩ = some u
def ListP (w : World) (G : Nat → Rl) (B : Nat) (v : Value) (l : List Rw) : Prop := ∃ us, ListF w G B v l us
section
variable {w w' w3 w4 : World} {G G' : Nat → Rl} {B : Nat} {v v' u : Value} {l : List Rw} {us : List Value} {r : Rw} {ex : Rl → Prop}
theorem ListP.nil (w : World) (G : Nat → Rl) (B : Nat) : ListP w G B (.slice none 0 0) [] := ⟨[], rfl, (fun j r u h => by simp at h), (fun k h => by cases h), .inl (World.ownsRow_nil _ _ _ _)⟩
theorem ListF.in (h : ListF w G B v l us) : RowsIn w All v l := by
  have key : ∀ g cap, v = .slice (some ⟨g, 0, none⟩) l.length cap → (∀ j u, (flat l us)[j]? = some u → w.cell? ⟨g, j, none⟩ = some u) → RowsIn w All v l := fun g cap hv hc => by
    refine ⟨_, cap, hv, .inr ⟨g, 0, rfl, trivial, (h.tag g (by rw [hv]; rfl)).2.2.1, fun j s hj => ?_⟩⟩
    have hj' : j < l.length := (List.getElem?_eq_some_iff.1 hj).1
    obtain ⟨u, hu⟩ : ∃ u, us[j]? = some u := ⟨us[j]'(by rw [h.ul]; exact hj'), List.getElem?_eq_getElem _⟩
    have hf := flat_get l us j s u hj hu
    exact ⟨u, by rw [Nat.zero_add]; exact hc _ _ hf.1, by rw [Nat.zero_add]; exact hc _ _ hf.2, (h.ids j s u hj hu).in.all⟩
  rcases h.row with ho | ⟨g, hv, hc⟩
  · rcases Joins.ownsRow_forms ho with ⟨hv, h0⟩ | ⟨g, cap, hv⟩
    · have hl0 := List.length_eq_zero_iff.1 h0
      exact ⟨none, 0, by rw [hv, hl0]; rfl, .inl hl0⟩
    · refine key g cap hv (fun j u hu => ?_)
      have hlt := (List.getElem?_eq_some_iff.1 hu).1
      rw [hv] at ho
      rw [World.ownsRow.cellAt ho j (by rw [← ho.1]; exact hlt)]
      exact hu
  · exact key g _ hv hc
/-- The list stands. -/
theorem ListF.tr (h : ListF w G B v l us) (t : Tr ex G w G' w') (hx : ¬ ex .out) : ListF w' G' B v l us := by
  refine ⟨h.ul, fun j r u hj hu => ?_, fun k hk => ?_, ?_⟩
  · obtain ⟨h1, h2⟩ := h.ids j r u hj hu
    exact ⟨ownsRow_kp h1 t.kp (fun k hk => by rw [(h2 k hk).1]; exact hx), fun k hk => ⟨(t.agree k (h1.lt k hk).2).trans (h2 k hk).1, (h2 k hk).2⟩⟩
  · obtain ⟨h1, h2, h3, c, h4⟩ := h.tag k hk
    exact ⟨(t.agree k h3).trans h1, h2, Nat.lt_of_lt_of_le h3 t.kp.size, c, (t.kp.block k h3 (by rw [h1]; exact hx)).trans h4⟩
  · rcases h.row with ho | ⟨g, hv, hc⟩
    · exact .inl (ownsRow_kp ho t.kp (fun k hk => by rw [(h.tag k hk).1]; exact hx))
    · have hg := h.tag g (by rw [hv]; rfl)
      exact .inr ⟨g, hv, fun j u hu => (t.kp.cell (p := ⟨g, j, none⟩) (by show ¬ ex (G g); rw [hg.1]; exact hx) hg.2.2.1).trans (hc j u hu)⟩
theorem ListP.tr (h : ListP w G B v l) (t : Tr ex G w G' w') (hx : ¬ ex .out) : ListP w' G' B v l := by
  obtain ⟨us, h⟩ := h
  exact ⟨us, h.tr t hx⟩
theorem ListP.up (h : ListP w G B v l) (hb : Below w.heap.size w w') : ListP w' G B v l := h.tr (Tr.up (ex := fun _ => False) hb) (fun h => h)
/-- A row more, behind a temporary block. -/
theorem ListF.snoc {o : Obj} (h : ListF w G B v l us) (hb : Below w.heap.size w w3) (hu : OwnD w3 (fun k => G k = .out ∧ B ≤ k) u r.2) (hB : B ≤ w.heap.size) (hO : Out G w)
    (ho : w4.ownsRow 0 34 2 v' (l.length + 1) (flat l us ++ [.int .i64 r.1, u])) (hg : (w3.alloc o).grownBy w4 v.ownBlock) (hw : v'.ownBlock = v.ownBlock ∨ ∃ g, v'.ownBlock = some g ∧ w3.heap.size ≤ g) :
    ListF w4 G B v' (l ++ [r]) (us ++ [u]) := by
  have keep : ∀ {x : Value} {m : List Int}, OwnD w3 (fun k => G k = .out ∧ B ≤ k) x m → OwnD w4 (fun k => G k = .out ∧ B ≤ k) x m := fun {x m} hx => by
    refine ⟨(hx.1.alloc o).kept hg ?_, hx.2⟩
    cases hxb : x.ownBlock with
    | none => exact .inl rfl
    | some k =>
      refine .inr (fun e => ?_)
      obtain ⟨_, _, hlt, c, hc⟩ := h.tag k e.symm
      rcases hx.1.2 with ⟨h1, _⟩ | ⟨g, cap, cur, h1, _, h2, _⟩
      · rw [h1] at hxb; cases hxb
      · rw [h1] at hxb
        simp [Value.ownBlock] at hxb
        subst hxb
        rw [hb.block g hlt, hc] at h2
        simp at h2
  have hz := hb.size
  refine ⟨by simp [h.ul], fun j s x hj hx => ?_, fun k hk => ?_, .inl (by rw [List.length_append, flat_snoc _ _ _ _ h.ul]; exact ho)⟩
  · by_cases hjl : j < l.length
    · rw [List.getElem?_append_left hjl] at hj
      rw [List.getElem?_append_left (by have := h.ul; omega)] at hx
      exact keep ((h.ids j s x hj hx).kp (Kp.of hb))
    · have hj' : j = l.length := by
        have := (List.getElem?_eq_some_iff.1 hj).1; simp at this; omega
      subst hj'
      rw [List.getElem?_append_right (by omega)] at hj
      rw [List.getElem?_append_right (by have := h.ul; omega)] at hx
      simp at hj
      rw [h.ul] at hx
      simp at hx
      subst hj hx
      exact keep hu
  · have hk4 := (ho.lt k hk).2
    have hc4 : ∃ c, w4.heap[k]? = some (.cells c 34 (0, 0)) := by
      rcases ho.2 with ⟨h1, _⟩ | ⟨g, cap, cur, h1, _, h2, _⟩
      · rw [h1] at hk; cases hk
      · rw [h1] at hk
        simp [Value.ownBlock] at hk
        subst hk
        exact ⟨cur, h2⟩
    rcases hw with e | ⟨g, e, hgz⟩
    · have := h.tag k (by rw [← e]; exact hk)
      exact ⟨this.1, this.2.1, hk4, hc4⟩
    · rw [e] at hk
      obtain rfl := Option.some.inj hk
      exact ⟨hO g (by omega), by omega, hk4, hc4⟩
/-- What append does to it. -/
theorem list_append {o : Obj} {i : TypeInfo} (qi : Try.prog.info? 34 = some i) (q0 : i.zero = some (.agg #[.int .i64 0, .slice none 0 0])) (q1 : i.size = 2) (q2 : i.bytes = 32) (h : ListF w3 G B v l us) (hl : l.length ≤ 4194304) (ty : TypeId) (p : Int) (a : Option Addr) (n c : Nat)
    (ho : o = .cells #[.int .i64 p, .slice a n c] 34) :
    ∃ v' w4, (Builtin.append_ #[29, 29] ty #[v, .slice (some ⟨w3.heap.size, 0, none⟩) 1 1]).run Try.prog (w3.alloc o) = .ok v' w4 ∧ w4.ownsRow 0 34 2 v' (l.length + 1) (flat l us ++ [.int .i64 p, .slice a n c]) ∧ (w3.alloc o).grownBy w4 v.ownBlock ∧
      (v'.ownBlock = v.ownBlock ∨ ∃ g, v'.ownBlock = some g ∧ w3.heap.size ≤ g) := by
  subst ho
  have hnews : ∀ j u, [Value.int .i64 p, .slice a n c][j]? = some u → (w3.alloc (.cells #[.int .i64 p, .slice a n c] 34)).cell? ((⟨w3.heap.size, 0, none⟩ : Addr).add j) = some u :=
    World.news_of_block (cs := #[.int .i64 p, .slice a n c]) (t := 34) (fr := (0, 0)) (heap_alloc_new w3 _)
  rcases h.row with ho | ⟨g, hv, hc⟩
  · obtain ⟨v', w4, h1, h2, h3, _, h5⟩ := run_append_own_at (P := Try.prog) (w3.alloc (.cells #[.int .i64 p, .slice a n c] 34)) 0 29 ty 34 i (.agg #[.int .i64 0, .slice none 0 0]) 2 32 Try.underlying29 qi q0 q1 q2 rfl (by decide) v l.length (flat l us) (ho.alloc _) ⟨w3.heap.size, 0, none⟩ 1 1 [.int .i64 p, .slice a n c] rfl hnews (one_row _ _ _ _) (by unfold maxLen; omega) (by omega) (Nat.zero_le _)
    exact ⟨v', w4, h1, h2, h3, h5.imp id (fun e => ⟨_, e, by simp⟩)⟩
  · subst hv
    have hg := (h.tag g rfl).2.2.1
    obtain ⟨v', w4, h1, h2, h3⟩ := run_append_arg_grows (P := Try.prog) (w3.alloc (.cells #[.int .i64 p, .slice a n c] 34)) 29 ty 34 i (.agg #[.int .i64 0, .slice none 0 0]) 2 32 Try.underlying29 qi q0 q1 q2 rfl (by decide) ⟨g, 0, none⟩ l.length l.length (flat l us) (flat_length _ _ h.ul)
      (fun j u hu => by
        rw [addr_add, Nat.zero_add]
        exact (World.cell?_of_block (a := ⟨g, j, none⟩) (Below.heap_alloc _ _ _ hg)).trans (hc j u hu)) ⟨w3.heap.size, 0, none⟩ 1 1 [.int .i64 p, .slice a n c] rfl hnews (by omega) (by unfold maxLen; omega) (by omega)
    have h4 := h2.form (by omega)
    obtain ⟨g', cap', h5, h6, h7⟩ := h4
    refine ⟨v', w4, h1, ownsRow_low h2 (Nat.zero_le _), ⟨h3.os, h3.tape, h3.output, h3.size, fun k hk _ => h3.block k hk (by simp)⟩, .inr ⟨g', by rw [h5]; rfl, by simp at h6; omega⟩⟩
/-- The first n alone, none behind them. -/
theorem flat_take : ∀ (l : List Rw) (us : List Value) (n : Nat), us.length = l.length → flat (l.take n) (us.take n) = (flat l us).take (n * 2)
  | [], _, n, _ => by simp [flat]
  | s :: l, [], n, h => by simp at h
  | s :: l, u :: us, 0, h => by simp [flat]
  | s :: l, u :: us, n + 1, h => by
    have ih := flat_take l us n (by simpa using h)
    rw [show (n + 1) * 2 = n * 2 + 1 + 1 by omega]
    simp [flat, ih]
theorem ListP.cut {a : Option Addr} {len cap : Nat} (h : ListP w G B (.slice a len cap) l) {n : Nat} (hn : n ≤ l.length) : ListP w G B (.slice a n n) (l.take n) ∧ (a = none → l = []) ∧ l.length ≤ cap ∧ len = l.length := by
  obtain ⟨us, h1, h2, h3, h4⟩ := h
  have hid : ∀ (j : Nat) (r : Rw) (u : Value), (l.take n)[j]? = some r → (us.take n)[j]? = some u → OwnD w (fun k => G k = .out ∧ B ≤ k) u r.2 := fun j r u hj hu => by
    have hjn := (List.getElem?_eq_some_iff.1 hj).1
    rw [List.length_take] at hjn
    rw [List.getElem?_take, if_pos (by omega)] at hj hu
    exact h2 j r u hj hu
  have htl : (l.take n).length = n := by rw [List.length_take]; omega
  have hul : (us.take n).length = (l.take n).length := by rw [List.length_take, htl]; omega
  rcases h4 with ho | ⟨g, hv, hc⟩
  · rcases ho.2 with ⟨h5, h0⟩ | ⟨g, cp, cur, h5, _, h6, h7, h8, h9, h10⟩
    · simp only [Value.slice.injEq] at h5
      obtain ⟨rfl, rfl, rfl⟩ := h5
      have hl0 := List.length_eq_zero_iff.1 h0
      subst hl0
      obtain rfl : n = 0 := by simpa using hn
      exact ⟨by rw [List.take_zero]; exact ListP.nil w G B, fun _ => rfl, by simp, rfl⟩
    · simp only [Value.slice.injEq] at h5
      obtain ⟨rfl, rfl, rfl⟩ := h5
      refine ⟨⟨us.take n, hul, hid, fun k hk => h3 k hk, .inr ⟨g, by rw [htl], fun j u hu => ?_⟩⟩, (fun e => by cases e), h7, rfl⟩
      rw [flat_take _ _ _ h1] at hu
      have hj := (List.getElem?_eq_some_iff.1 hu).1
      rw [List.length_take] at hj
      rw [List.getElem?_take, if_pos (by omega)] at hu
      rw [World.ownsRow.cellAt ho j (by rw [← ho.1]; omega)]
      exact hu
  · simp only [Value.slice.injEq] at hv
    obtain ⟨rfl, rfl, rfl⟩ := hv
    refine ⟨⟨us.take n, hul, hid, fun k hk => h3 k hk, .inr ⟨g, by rw [htl], fun j u hu => ?_⟩⟩, (fun e => by cases e), Nat.le_refl _, rfl⟩
    rw [flat_take _ _ _ h1] at hu
    have hj := (List.getElem?_eq_some_iff.1 hu).1
    rw [List.length_take] at hj
    rw [List.getElem?_take, if_pos (by omega)] at hu
    exact hc j u hu
end
end Go.Proofs.Ytmkoejpdoeblkaa
