/-
  A net in the making: one memory more. No condition beyond those that each lemma states.
-/
import Derived.Test.YtlandkindbmbfaaW21
import Derived.Test.YtlandkindbmbfaaPlain10
namespace Go.Proofs.Ytlandkindbmbfaa
open Go.RowKit Plain

/-- A test of the shape s whose blocks lie from lo on, below hi. -/
def FnNew (w : World) (lo hi : Nat) (s : Shp) (fv : Value) : Prop :=
  ∃ (bs bc : Nat) (cv q : Value), fv = .func (.func 64) #[] #[.pointer (some ⟨bs, 0, none⟩), .pointer (some ⟨bc, 0, none⟩)] ∧ (lo ≤ bs ∧ bs < hi) ∧ (lo ≤ bc ∧ bc < hi) ∧
    w.heap[bs]? = some (.cells #[.int .i64 s.pred, q] 27 (0, 0)) ∧ w.heap[bc]? = some (.cells #[cv] 25 (0, 0)) ∧ OwnInts w 0 cv s.cells ∧ ∀ k, cv.ownBlock = some k → lo ≤ k ∧ k < hi

theorem FnNew.of_test {w w' : World} {s : Shp} {v : Value} {e : Ending} (h : TestIs s v w e w') (hv : validB s = true) : ∃ fv, e = .returned fv ∧ FnNew w' w.heap.size w'.heap.size s fv ∧ Below w.heap.size w w' := by
  rcases h with ⟨h0, _⟩ | ⟨_, bc, cv, rfl, hb, h1, h2, h3, h4⟩
  · rw [hv] at h0; cases h0
  · refine ⟨_, rfl, ⟨_, bc, cv, v, rfl, ⟨Nat.le_refl _, ?_⟩, ⟨by omega, ?_⟩, h1, h3, h4.mono (Nat.zero_le _), fun k hk => h4.lt k hk⟩, hb⟩
    · exact lt_of_block h1
    · exact lt_of_block h3
theorem FnNew.up {w w' : World} {lo hi : Nat} {s : Shp} {fv : Value} (h : FnNew w lo hi s fv) (hb : Below hi w w') : FnNew w' lo hi s fv := by
  obtain ⟨bs, bc, cv, q, rfl, h1, h2, h3, h4, h5, h6⟩ := h
  exact ⟨bs, bc, cv, q, rfl, h1, h2, (hb.block bs h1.2).trans h3, (hb.block bc h2.2).trans h4, row_keep h5 (fun k hk => hb.block k (h6 k hk).2), h6⟩

/-- The test of a memory does not lie in the block of pointers. -/
theorem FnIs.apart {w : World} {G : Nat → Nat} {s : Shp} {fv mv : Value} {B n : Nat} {xs : List Value} (h : FnIs w G s fv) (hr : w.ownsRow B 102 1 mv n xs) : FnIs w (fun k => if mv.ownBlock = some k then 0 else G k) s fv := by
  have key : ∀ (k : Nat) (cs : Array Value) (t : TypeId), w.heap[k]? = some (.cells cs t (0, 0)) → t ≠ 102 → mv.ownBlock ≠ some k := by
    intro k cs t hk ht e
    rcases hr.2 with ⟨rfl, _⟩ | ⟨g, cap, cur, rfl, _, hg, _⟩
    · simp [Value.ownBlock] at e
    · have e2 : g = k := by simpa [Value.ownBlock] using e
      subst e2
      rw [hk] at hg
      simp only [Option.some.injEq, Obj.cells.injEq] at hg
      exact ht hg.2.1
  obtain ⟨bs, bc, cv, q, rfl, h1, h2, h3, h4, h5, h6⟩ := h
  refine ⟨bs, bc, cv, q, rfl, ?_, ?_, h3, h4, h5, fun k hk => ?_⟩
  · show (if mv.ownBlock = some bs then 0 else G bs) = 1
    rw [if_neg (key bs _ _ h3 (by decide))]; exact h1
  · show (if mv.ownBlock = some bc then 0 else G bc) = 1
    rw [if_neg (key bc _ _ h4 (by decide))]; exact h2
  · show (if mv.ownBlock = some k then 0 else G k) = 1
    rw [if_neg, h6 k hk]
    intro e
    rcases types_apart h5 hr (by decide) with h7 | h7
    · rw [h7] at hk; cases hk
    · exact h7 (hk.trans e.symm)

structure NewInv (w : World) (X : Nat) (ss : List Shp) (i : Nat) (mv : Value) (ms : List Nat) (G : Nat → Nat) (wr : World) : Prop where
  net : MNet wr G X mv ms (ss.take i) (fun _ => []) 0
  below : Below w.heap.size w wr
  old : ∀ k, k < w.heap.size → G k = 0

section
variable {w wr w1 w2 : World} {X i b : Nat} {ss : List Shp} {s : Shp} {mv v' fv : Value} {ms : List Nat} {G : Nat → Nat}

theorem NewInv.start (w : World) (ss : List Shp) : NewInv w w.heap.size ss 0 (.slice none 0 0) [] (fun k => if k = w.heap.size then 2 else 0) (w.alloc (.cells #[.slice none 0 0, .int .i64 0] 101)) := by
  refine ⟨⟨fun k hk => if_neg ?_, if_pos rfl, heap_alloc_new _ _, World.ownsRow_nil _ _ _ _, fun k hk => ?_, rfl, fun i b s h1 h2 => ?_⟩, up_alloc _ _, fun k hk => if_neg (by omega)⟩
  · have : (w.alloc (.cells #[.slice none 0 0, .int .i64 0] 101)).heap.size = w.heap.size + 1 := by simp
    omega
  · simp [Value.ownBlock] at hk
  · simp at h1

theorem NewInv.up (h : NewInv w X ss i mv ms G wr) (hb : Below wr.heap.size wr w1) : NewInv w X ss i mv ms G w1 := ⟨h.net.up hb, h.below.trans (hb.mono h.below.size), h.old⟩
theorem NewInv.alloc (h : NewInv w X ss i mv ms G wr) (o : Obj) : NewInv w X ss i mv ms G (wr.alloc o) := h.up (up_alloc _ _)

/-- One memory more. -/
theorem NewInv.grown (h : NewInv w X ss i mv ms G wr) (hs : ss[i]? = some s) (hb : Below wr.heap.size wr w1) (hm : w1.heap[b]? = some (.cells #[fv, .slice none 0 0, .slice none 0 0] 105 (0, 0))) (hf : FnNew w1 wr.heap.size b s fv)
    (hg : w1.grownBy w2 mv.ownBlock) (hown : w2.ownsRow 0 102 1 v' (i + 1) (ptrs ms ++ [.pointer (some ⟨b, 0, none⟩)])) (hat : v'.ownBlock = mv.ownBlock ∨ v'.ownBlock = some w1.heap.size) :
    ∃ G', NewInv w X ss (i + 1) v' (ms ++ [b]) G' (w2.setCell ⟨X, 0, none⟩ v') := by
  have hil : i < ss.length := (List.getElem?_eq_some_iff.1 hs).1
  have hlen : (ss.take i).length = i := by rw [List.length_take]; omega
  have hml : ms.length = i := h.net.mlen.trans hlen
  have hbw : wr.heap.size ≤ b := by obtain ⟨bs, _, _, _, _, h1, _⟩ := hf; omega
  have hb1 : b < w1.heap.size := lt_of_block hm
  have hz1 := hb.size
  have hz2 := hg.size
  have hXl : X < wr.heap.size := h.net.lt (by rw [h.net.tag]; decide)
  have hmvX : ∀ k, mv.ownBlock = some k → k ≠ X := fun k hk e => by have := h.net.mtag k hk; rw [e, h.net.tag] at this; cases this
  have hmvl : ∀ k, mv.ownBlock = some k → k < wr.heap.size := fun k hk => h.net.lt (by rw [h.net.mtag k hk]; decide)
  have hX2 : w2.heap[X]? = some (.cells #[mv, .int .i64 ((0 : Nat) : Int)] 101 (0, 0)) :=
    (hg.block X (by omega) (fun e => hmvX X e.symm rfl)).trans ((hb.block X hXl).trans h.net.net)
  have hXn : (w2.setCell ⟨X, 0, none⟩ v').heap[X]? = some (.cells #[v', .int .i64 ((0 : Nat) : Int)] 101 (0, 0)) := by rw [block_setCell hX2]; rfl
  have hzs : (w2.setCell ⟨X, 0, none⟩ v').heap.size = w2.heap.size := by simp [World.setCell]
  have hblk : ∀ k, k < w1.heap.size → k ≠ X → mv.ownBlock ≠ some k → (w2.setCell ⟨X, 0, none⟩ v').heap[k]? = w1.heap[k]? := fun k hk hx hm =>
    (Below.heap_setCell _ _ _ _ hx).trans (hg.block k hk (fun e => hm e.symm))
  have hGnew : ∀ k, wr.heap.size ≤ k → k < b → (fun k => if k < wr.heap.size then G k else if k = b then 2 * i + 3 else if k < w2.heap.size then 1 else 0) k = 1 := fun k h1 h2 => by
    show (if k < wr.heap.size then G k else if k = b then 2 * i + 3 else if k < w2.heap.size then 1 else 0) = 1
    rw [if_neg (by omega), if_neg (by omega), if_pos (by omega)]
  refine ⟨fun k => if k < wr.heap.size then G k else if k = b then 2 * i + 3 else if k < w2.heap.size then 1 else 0, ⟨fun k hk => ?_, ?_, hXn, ?_, fun k hk => ?_, ?_, ?_⟩, ?_, fun k hk => ?_⟩
  · show (if k < wr.heap.size then G k else if k = b then 2 * i + 3 else if k < w2.heap.size then 1 else 0) = 0
    rw [if_neg (by omega), if_neg (by omega), if_neg (by omega)]
  · show (if X < wr.heap.size then G X else _) = 2
    rw [if_pos hXl]; exact h.net.tag
  · rw [ptrs_snoc]
    have e : (ss.take (i + 1)).length = i + 1 := by rw [List.length_take]; omega
    rw [e]
    refine row_keep hown (fun k hk => Below.heap_setCell _ _ _ _ (fun e => ?_))
    simp only at e
    rcases hat with h1 | h1
    · exact hmvX k (h1 ▸ hk) e
    · rw [hk] at h1; have := Option.some.inj h1; omega
  · show (if k < wr.heap.size then G k else if k = b then 2 * i + 3 else if k < w2.heap.size then 1 else 0) = 1
    rcases hat with h1 | h1
    · rw [h1] at hk
      rw [if_pos (hmvl k hk)]; exact h.net.mtag k hk
    · have h2 := (World.ownsRow.lt hown k hk).2
      rw [hk] at h1
      have h3 := Option.some.inj h1
      rw [if_neg (by omega), if_neg (by omega), if_pos h2]
  · rw [List.length_append, List.length_singleton, hml, List.length_take]; omega
  · intro j c t ht hc
    have hj : j < (ss.take (i + 1)).length := (List.getElem?_eq_some_iff.1 ht).1
    rw [List.length_take] at hj
    have ht' : ss[j]? = some t := by rw [List.getElem?_take_of_lt (by omega)] at ht; exact ht
    by_cases e : j < i
    · rw [List.getElem?_append_left (by omega)] at hc
      have hmem := h.net.mem j c t (by rw [List.getElem?_take_of_lt e]; exact ht') hc
      obtain ⟨g0, fv0, rv0, g1, g2, g3, g4⟩ := hmem
      have hcX : c ≠ X := fun e => by rw [e, h.net.tag] at g0; omega
      have hcm : mv.ownBlock ≠ some c := fun e => by have := h.net.mtag c e; omega
      have hcl : c < wr.heap.size := h.net.lt (by omega)
      have hm0 : MemIs wr (fun k => if mv.ownBlock = some k then 0 else G k) t j c [] :=
        ⟨by show (if mv.ownBlock = some c then 0 else G c) = _; rw [if_neg hcm]; exact g0, fv0, rv0, g1, g2.apart h.net.row, g3, fun k hk => by
          show (if mv.ownBlock = some k then 0 else G k) = _
          have := g4 k hk
          rw [if_neg (fun e => by have := h.net.mtag k e; omega)]; exact this⟩
      refine hm0.keep (fun k hk => ?_)
      replace hk : (if mv.ownBlock = some k then 0 else G k) = 1 ∨ (if mv.ownBlock = some k then 0 else G k) = 2 * j + 3 ∨ (if mv.ownBlock = some k then 0 else G k) = 2 * j + 4 := hk
      have hk0 : mv.ownBlock ≠ some k := fun e => by rw [if_pos e] at hk; omega
      rw [if_neg hk0] at hk
      have hkl : k < wr.heap.size := h.net.lt (by omega)
      refine ⟨(hblk k (by omega) (fun e => by rw [e, h.net.tag] at hk; omega) hk0).trans (hb.block k hkl), ?_⟩
      show (if k < wr.heap.size then G k else _) = (if mv.ownBlock = some k then 0 else G k)
      rw [if_pos hkl, if_neg hk0]
    · obtain rfl : j = i := by omega
      rw [hs] at ht'
      obtain rfl := Option.some.inj ht'
      have hcb : c = b := by
        have : (ms ++ [b])[j]? = some b := by rw [← hml]; simp
        rw [this] at hc; exact (Option.some.inj hc).symm
      subst hcb
      obtain ⟨bs, bc, cv, q, rfl, h1, h2, h3, h4, h5, h6⟩ := hf
      have ho : ∀ k, wr.heap.size ≤ k → k < w1.heap.size → (w2.setCell ⟨X, 0, none⟩ v').heap[k]? = w1.heap[k]? := fun k hk1 hk2 => hblk k hk2 (by omega) (fun e => by have := hmvl k e; omega)
      refine ⟨?_, _, _, (ho c hbw hb1).trans hm, ⟨bs, bc, cv, q, rfl, hGnew bs h1.1 h1.2, hGnew bc h2.1 h2.2, (ho bs h1.1 (by omega)).trans h3, (ho bc h2.1 (by omega)).trans h4, row_keep h5 (fun k hk => ho k (h6 k hk).1 (by have := (h6 k hk).2; omega)), fun k hk => hGnew k (h6 k hk).1 (h6 k hk).2⟩, OwnInts.nil _ _, fun k hk => by cases hk⟩
      show (if c < wr.heap.size then G c else if c = c then 2 * j + 3 else if c < w2.heap.size then 1 else 0) = _
      rw [if_neg (by omega), if_pos rfl]
  · have hXo : w.heap.size ≤ X := by
      rcases Nat.lt_or_ge X w.heap.size with h1 | h1
      · have := h.old X h1; rw [h.net.tag] at this; cases this
      · exact h1
    refine Below.setCell (Below.grown (h.below.trans (hb.mono h.below.size)) hg (by have := h.below.size; omega) (fun k hk => ?_)) hXo _
    rcases Nat.lt_or_ge k w.heap.size with h1 | h1
    · have := h.old k h1; rw [h.net.mtag k hk] at this; cases this
    · exact h1
  · show (if k < wr.heap.size then G k else _) = 0
    have := h.below.size
    rw [if_pos (by omega)]; exact h.old k hk
end

def NewIs (ss : List Shp) (w : World) (e : Ending) (w' : World) : Prop :=
  (newB ss = false ∧ e = .returned (.tuple #[.pointer none, .int .i64 2]) ∧ Below w.heap.size w w') ∨
  (newB ss = true ∧ ∃ G X mv ms, e = .returned (.tuple #[.pointer (some ⟨X, 0, none⟩), .int .i64 0]) ∧ MNet w' G X mv ms ss (fun _ => []) 0 ∧ Below w.heap.size w w' ∧ ∀ k, k < w.heap.size → G k = 0)

end Go.Proofs.Ytlandkindbmbfaa
