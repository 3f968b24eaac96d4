/-
  A net that holds some rows: what each of its calls does to it. Conditions: the numbers are ints, the lists within the form's own reach.
-/
import Derived.Test.YtlandkindbmbfaaK12
import Derived.Test.YtlandkindbmbfaaW20
namespace Go.Proofs.Ytlandkindbmbfaa
open Go.RowKit Plain

/-- The memories of the shapes ss, behind the rows rs. -/
def lsOf (ss : List Shp) (rs : List Shp) : Nat → List Int := fun j => match ss[j]? with
  | some s => nums s rs
  | none => []
theorem lsOf_some {ss rs : List Shp} {j : Nat} {s : Shp} (h : ss[j]? = some s) : lsOf ss rs j = nums s rs := by unfold lsOf; rw [h]
theorem lsOf_nil (ss : List Shp) (j : Nat) : lsOf ss [] j = [] := by unfold lsOf; split <;> rfl
theorem lsOf_len (ss rs : List Shp) (j : Nat) : (lsOf ss rs j).length ≤ rs.length := by
  unfold lsOf
  split
  · exact idx_length _
  · simp
theorem nums_snoc (s : Shp) (rs : List Shp) (r : Shp) : nums s (rs ++ [r]) = nums s rs ++ (if fitR s r = true then [(rs.length : Int)] else []) := idx_snoc _ _
theorem lsOf_add (ss rs : List Shp) (r : Shp) (j : Nat) : addLs ss r.pred r.cells rs.length (lsOf ss rs) j = lsOf ss (rs ++ [r]) j := by
  unfold addLs
  cases h : ss[j]? with
  | none => simp [lsOf, h]
  | some s =>
    simp only
    rw [lsOf_some h, lsOf_some h, nums_snoc]
    have e : fitF r.pred r.cells s = fitR s r := rfl
    rw [e]
    split
    · rfl
    · rw [List.append_nil]
theorem nums_cut (s : Shp) (rs : List Shp) {m : Nat} (hm : m ≤ rs.length) : nums s rs = nums s (rs.take m) ++ idxFrom (fitR s) m (rs.drop m) := idx_cut _ hm

def Held (wS : World) (G0 : Nat → Nat) (X : Nat) (mv : Value) (ms : List Nat) (ss rs : List Shp) (wr : World) : Prop :=
  ∃ G, MNet wr G X mv ms ss (lsOf ss rs) rs.length ∧ (∀ k, k < wS.heap.size → G k = G0 k) ∧ Turned G0 wS wr

section
variable {wS wr w1 : World} {G0 : Nat → Nat} {X : Nat} {mv : Value} {ms : List Nat} {ss rs : List Shp}

theorem Held.start (h : MNet wS G0 X mv ms ss (fun _ => []) 0) : Held wS G0 X mv ms ss [] wS :=
  ⟨G0, h.congr (fun i _ => (lsOf_nil ss i).symm), fun _ _ => rfl, Turned.refl _ _⟩
theorem Held.up (h : Held wS G0 X mv ms ss rs wr) (hb : Below wr.heap.size wr w1) : Held wS G0 X mv ms ss rs w1 := by
  obtain ⟨G, h1, h2, h3⟩ := h
  exact ⟨G, h1.up hb, h2, h3.trans (Turned.of_below (G := G) hb) h2⟩
theorem Held.turned (h : Held wS G0 X mv ms ss rs wr) : Turned G0 wS wr := by
  obtain ⟨G, h1, h2, h3⟩ := h; exact h3

set_option maxHeartbeats 1600000 in
theorem held_add (h : Held wS G0 X mv ms ss rs wr) (hss : ss.length ≤ 4398046510976) (hok : Okays ss) (hva : ∀ s, s ∈ ss → validB s = true) (hn : rs.length < 17592186044400) (r : Shp) (u : Value) (hu : IntsAt wr wr.heap.size u r.cells)
    (hut : ∀ k, u.ownBlock = some k → k < wS.heap.size ∧ G0 k < 2) (hr : r.cells.length ≤ 35184372088832) (hp : 0 ≤ r.pred) (hng : negB r.cells = false) :
    Calls Try.prog 43 #[.pointer (some ⟨X, 0, none⟩), .int .i64 r.pred, u] wr fun e w' => ∃ v, e = .returned (.tuple #[v, .int .i64 0]) ∧ Held wS G0 X mv ms ss (rs ++ [r]) w' ∧ OwnInts w' wr.heap.size v (took ss r) := by
  obtain ⟨G, h1, h2, h3⟩ := h
  refine (add_yes h1 hss hok hva hn (fun i _ => lsOf_len ss rs i) r.pred r.cells u hu (fun _ k hk => by obtain ⟨e1, e2⟩ := hut k hk; rw [h2 k e1]; exact e2) hr hp hng).mono ?_
  rintro e w' ⟨v, G', rfl, hA⟩
  refine ⟨v, rfl, ⟨G', ?_, fun k hk => (hA.tags k (Nat.lt_of_lt_of_le hk h3.size)).trans (h2 k hk), h3.trans hA.turned h2⟩, ?_⟩
  · rw [List.length_append, List.length_singleton]
    exact hA.net.congr (fun j hj => by rw [if_pos hj]; exact lsOf_add ss rs r j)
  · have := hA.own
    rw [List.take_length] at this
    exact this

theorem held_undo (h : Held wS G0 X mv ms ss rs wr) (hss : ss.length ≤ 4398046510976) (hn : rs.length ≤ 17592186044400) {m : Nat} (hm : m ≤ rs.length) :
    Calls Try.prog 46 #[.pointer (some ⟨X, 0, none⟩), .int .i64 (m : Int)] wr fun e w' => e = .returned (.int .i64 0) ∧ Held wS G0 X mv ms ss (rs.take m) w' := by
  obtain ⟨G, h1, h2, h3⟩ := h
  refine (undo_yes h1 hm hss (lsOf ss (rs.take m)) (fun j => match ss[j]? with | some s => idxFrom (fitR s) m (rs.drop m) | none => []) (fun i hi => ?_) (fun i hi x hx => ?_) (fun i hi x hx => ?_) (fun i _ => Nat.le_trans (lsOf_len ss rs i) hn)).mono ?_
  · have hs : ss[i]? = some ss[i] := List.getElem?_eq_getElem hi
    rw [lsOf_some hs, lsOf_some hs]
    simp only [hs]
    exact nums_cut _ _ hm
  · have hs : ss[i]? = some ss[i] := List.getElem?_eq_getElem hi
    rw [lsOf_some hs] at hx
    have := idx_bounds (f := fitR ss[i]) (rs.take m) x hx
    rw [List.length_take, Nat.min_eq_left hm] at this
    exact this.2
  · have hs : ss[i]? = some ss[i] := List.getElem?_eq_getElem hi
    simp only [hs] at hx
    exact (idxFrom_bounds (f := fitR ss[i]) (rs.drop m) m x hx).1
  · rintro e w' ⟨rfl, hA, hT⟩
    refine ⟨rfl, G, ?_, h2, h3.trans hT h2⟩
    rw [List.length_take, Nat.min_eq_left hm]
    exact hA

theorem held_len (h : Held wS G0 X mv ms ss rs wr) : Calls Try.prog 37 #[.pointer (some ⟨X, 0, none⟩)] wr fun e w' => e = .returned (.int .i64 (rs.length : Int)) ∧ wr = w' := by
  obtain ⟨G, h1, _⟩ := h; exact len_any h1
theorem held_rows (h : Held wS G0 X mv ms ss rs wr) (hn : rs.length ≤ 17592186044400) {m : Nat} {s : Shp} (hs : ss[m]? = some s) :
    Calls Try.prog 48 #[.pointer (some ⟨X, 0, none⟩), .int .i64 (m : Int)] wr (TupIs (nums s rs) 0 wr) := by
  obtain ⟨G, h1, _⟩ := h
  exact rows_yes h1 (List.getElem?_eq_some_iff.1 hs).1 (lsOf_some hs) (Nat.le_trans (idx_length _) hn)
end

end Go.Proofs.Ytlandkindbmbfaa
