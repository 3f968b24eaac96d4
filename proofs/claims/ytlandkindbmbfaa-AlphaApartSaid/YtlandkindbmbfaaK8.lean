/-
  A net that takes a row, in the middle of the call: which memories took it so far, and what was told so far. No condition beyond those that each lemma states.
-/
import Derived.Test.YtlandkindbmbfaaW19
namespace Go.Proofs.Ytlandkindbmbfaa
open Go.RowKit Plain

def fitF (p : Int) (row : List Int) (s : Shp) : Bool := fitsB s p row
/-- The memories behind a row with the number n. -/
def addLs (ss : List Shp) (p : Int) (row : List Int) (n : Nat) (ls : Nat → List Int) : Nat → List Int := fun j =>
  match ss[j]? with
  | some s => if fitF p row s = true then ls j ++ [(n : Int)] else ls j
  | none => ls j
theorem addLs_yes {ss : List Shp} {p : Int} {row : List Int} {n : Nat} {ls : Nat → List Int} {j : Nat} {s : Shp} (h : ss[j]? = some s) (hf : fitF p row s = true) : addLs ss p row n ls j = ls j ++ [(n : Int)] := by
  unfold addLs; rw [h]; simp [hf]
theorem addLs_no {ss : List Shp} {p : Int} {row : List Int} {n : Nat} {ls : Nat → List Int} {j : Nat} {s : Shp} (h : ss[j]? = some s) (hf : fitF p row s = false) : addLs ss p row n ls j = ls j := by
  unfold addLs; rw [h]; simp [hf]

theorem IntsAt.turned {w w' : World} {G : Nat → Nat} {u : Value} {l : List Int} (h : IntsAt w w.heap.size u l) (ht : Turned G w w') (hu : l ≠ [] → ∀ k, u.ownBlock = some k → G k < 2) : IntsAt w' w'.heap.size u l := by
  obtain ⟨a, cap, rfl, h⟩ := h
  refine ⟨a, cap, rfl, ?_⟩
  by_cases hl : l = []
  · exact .inl hl
  · obtain ⟨g, off, rfl, hg, hc⟩ := h.resolve_left hl
    exact .inr ⟨g, off, rfl, Nat.lt_of_lt_of_le hg ht.size, fun j hj => (World.cell?_of_block (ht.block g hg (hu hl g rfl))).trans (hc j hj)⟩

structure AddInv (w : World) (G : Nat → Nat) (X : Nat) (mv : Value) (ms : List Nat) (ss : List Shp) (p : Int) (row : List Int) (ls : Nat → List Int) (n i k : Nat) (o : Value) (G' : Nat → Nat) (wr : World) : Prop where
  net : MNet wr G' X mv ms ss (fun j => if j < i then addLs ss p row n ls j else ls j) (n + 1)
  tags : ∀ k, k < w.heap.size → G' k = G k
  turned : Turned G w wr
  own : OwnInts wr w.heap.size o (idx (fitF p row) (ss.take k))
  otag : ∀ k, o.ownBlock = some k → G' k = 0

section
variable {w wr w1 : World} {G G' : Nat → Nat} {X n i k b : Nat} {mv o o' rv rv' fv : Value} {ms : List Nat} {ss : List Shp} {p : Int} {row l : List Int} {ls : Nat → List Int} {s : Shp}

theorem AddInv.start (h : MNet w G X mv ms ss ls n) : AddInv w G X mv ms ss p row ls n 0 0 (.slice none 0 0) G (w.setCell ⟨X, 1, none⟩ (.int .i64 ((n : Int) + 1))) :=
  ⟨(h.count (n + 1)).congr (fun _ _ => rfl), fun _ _ => rfl, Turned.of_set (show 2 ≤ G X by rw [h.tag]; decide), OwnInts.nil _ _, fun k hk => by cases hk⟩
theorem AddInv.skip (h : AddInv w G X mv ms ss p row ls n i i o G' wr) (hs : ss[i]? = some s) (hf : fitF p row s = false) : AddInv w G X mv ms ss p row ls n (i + 1) (i + 1) o G' wr :=
  ⟨h.net.congr (fun j _ => by
    by_cases h1 : j < i
    · rw [if_pos h1, if_pos (by omega)]
    · rw [if_neg h1]
      by_cases h2 : j = i
      · subst h2; rw [if_pos (by omega), addLs_no hs hf]
      · rw [if_neg (by omega)]), h.tags, h.turned, by rw [idx_no hs hf]; exact h.own, h.otag⟩

/-- The memory number i has taken the row. -/
theorem AddInv.mid (h : AddInv w G X mv ms ss p row ls n i k o G' wr) (hs : ss[i]? = some s) (hm : ms[i]? = some b) (hrb : wr.heap[b]? = some (.cells #[fv, rv, .slice none 0 0] 105 (0, 0))) (hfn : FnIs wr G' s fv)
    (rt : ∀ k, rv.ownBlock = some k → G' k = 2 * i + 4) (hl : l = ls i) {ob : Obj} (hown : w1.ownsRow 0 3 1 rv' (l.length + 1) (lits l ++ [.int .i64 (n : Int)])) (hg : (wr.alloc ob).grownBy w1 rv.ownBlock)
    (hat : rv'.ownBlock = rv.ownBlock ∨ rv'.ownBlock = some (wr.alloc ob).heap.size) (hf : fitF p row s = true) :
    ∃ G2, AddInv w G X mv ms ss p row ls n (i + 1) k o G2 (w1.setCell ⟨b, 1, none⟩ rv') := by
  have hsz : wr.heap.size < w1.heap.size := by have := hg.size; simp at this; omega
  have hblk : ∀ k, k < wr.heap.size → some k ≠ rv.ownBlock → w1.heap[k]? = wr.heap[k]? := fun k hk hne => (hg.block k (by simp; omega) hne).trans (Below.heap_alloc _ _ _ hk)
  have hnew : ∀ k, rv'.ownBlock = some k → G' k = 2 * i + 4 ∨ wr.heap.size ≤ k ∧ G' k = 0 ∧ k < w1.heap.size := by
    intro k hk
    rcases hat with e | e
    · left; exact rt k (by rw [← e]; exact hk)
    · right
      rw [e] at hk
      have hk2 : k = (wr.alloc ob).heap.size := (Option.some.inj hk).symm
      have hk3 : wr.heap.size ≤ k := by rw [hk2]; simp
      refine ⟨hk3, h.net.zero k hk3, ?_⟩
      exact (World.ownsRow.lt hown k (by rw [e, hk2])).2
  have gb : G' b = 2 * i + 3 := (h.net.mem i b s hs hm).1
  refine ⟨fun k => if rv'.ownBlock = some k then 2 * i + 4 else G' k, ?_, ?_, ?_, ?_, ?_⟩
  · have hp := h.net.put (w1 := w1) (G' := fun k => if rv'.ownBlock = some k then 2 * i + 4 else G' k) (rv' := rv') (l' := l ++ [(n : Int)]) hs hm hrb hfn (fun k h0 h1 => hblk k (h.net.lt h0) (fun e => h1 (rt k e.symm)))
      (fun k h0 => by
        show (if rv'.ownBlock = some k then 2 * i + 4 else G' k) = G' k
        split
        · rename_i e; rcases hnew k e with h2 | ⟨_, h2, _⟩
          · exact h2.symm
          · exact absurd h2 h0
        · rfl)
      (fun k hk => by
        show (if rv'.ownBlock = some k then 2 * i + 4 else G' k) = 0
        rw [if_neg (fun e => by have := (World.ownsRow.lt hown k e).2; omega)]
        exact h.net.zero k (by omega))
      (by unfold OwnInts; rw [lits_snoc, List.length_append, List.length_singleton]; exact hown) (fun k hk => if_pos hk)
    refine hp.congr (fun j _ => ?_)
    by_cases h1 : j = i
    · subst h1; rw [if_pos rfl, if_pos (by omega), addLs_yes hs hf, hl]
    · rw [if_neg h1]
      by_cases h2 : j < i
      · rw [if_pos h2, if_pos (by omega)]
      · rw [if_neg h2, if_neg (by omega)]
  · intro k hk
    show (if rv'.ownBlock = some k then 2 * i + 4 else G' k) = G k
    have hk2 : k < wr.heap.size := Nat.lt_of_lt_of_le hk h.turned.size
    split
    · rename_i e
      rcases hnew k e with h2 | ⟨h2, _⟩
      · rw [← h2]; exact h.tags k hk
      · omega
    · exact h.tags k hk
  · have t1 : Turned G' wr w1 := ⟨hg.os, hg.tape, hg.output, by omega, fun k hk hk2 => hblk k hk (fun e => by have := rt k e.symm; omega)⟩
    have t2 : Turned G' w1 (w1.setCell ⟨b, 1, none⟩ rv') := Turned.of_set (show 2 ≤ G' b by omega)
    exact h.turned.trans (t1.trans t2 (fun _ _ => rfl)) h.tags
  · refine row_keep h.own (fun k hk => ?_)
    have h0 := h.otag k hk
    have hlt := (World.ownsRow.lt h.own k hk).2
    rw [Below.heap_setCell _ _ _ _ (fun e => by rw [e] at h0; simp only at h0; omega)]
    exact hblk k hlt (fun e => by have := rt k e.symm; omega)
  · intro k hk
    have h0 := h.otag k hk
    have hlt := (World.ownsRow.lt h.own k hk).2
    show (if rv'.ownBlock = some k then 2 * i + 4 else G' k) = 0
    rw [if_neg (fun e => by rcases hnew k e with h2 | ⟨h2, _⟩ <;> omega)]
    exact h0

/-- .. and its number is told. -/
theorem AddInv.tell (h : AddInv w G X mv ms ss p row ls n (i + 1) i o G' wr) (hs : ss[i]? = some s) (hf : fitF p row s = true) {ob : Obj} {t : List Int} (ht : t = idx (fitF p row) (ss.take i))
    (hown : w1.ownsRow w.heap.size 3 1 o' (t.length + 1) (lits t ++ [.int .i64 (i : Int)])) (hg : (wr.alloc ob).grownBy w1 o.ownBlock)
    (hat : o'.ownBlock = o.ownBlock ∨ o'.ownBlock = some (wr.alloc ob).heap.size) : AddInv w G X mv ms ss p row ls n (i + 1) (i + 1) o' G' w1 := by
  have hsz : wr.heap.size < w1.heap.size := by have := hg.size; simp at this; omega
  have hblk : ∀ k, k < wr.heap.size → some k ≠ o.ownBlock → w1.heap[k]? = wr.heap[k]? := fun k hk hne => (hg.block k (by simp; omega) hne).trans (Below.heap_alloc _ _ _ hk)
  refine ⟨h.net.keep (by omega) (fun k hk => hblk k (h.net.lt hk) (fun e => hk (h.otag k e.symm))), h.tags, ?_, ?_, ?_⟩
  · have ht := h.turned
    exact ⟨hg.os.trans ht.os, hg.tape.trans ht.tape, hg.output.trans ht.output, by have := ht.size; omega, fun k hk hk2 =>
      (hblk k (Nat.lt_of_lt_of_le hk ht.size) (fun e => by have := (World.ownsRow.lt h.own k e.symm).1; omega)).trans (ht.block k hk hk2)⟩
  · rw [idx_yes hs hf, ← ht]
    unfold OwnInts; rw [lits_snoc, List.length_append, List.length_singleton]; exact hown
  · intro k hk
    rcases hat with e | e
    · exact h.otag k (by rw [← e]; exact hk)
    · rw [e] at hk
      have hk2 : k = (wr.alloc ob).heap.size := (Option.some.inj hk).symm
      exact h.net.zero k (by rw [hk2]; simp)
end

end Go.Proofs.Ytlandkindbmbfaa
