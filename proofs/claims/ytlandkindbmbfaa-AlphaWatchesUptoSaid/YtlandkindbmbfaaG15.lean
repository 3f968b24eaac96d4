/-
  Texts of this seat, one behind the other: V5, V6, V8, V9, V10. Conditions: those that each of them states.
-/
import Derived.Test.YtlandkindbmbfaaG14
import Derived.Test.YtlandkindbmbfaaG12
/-
  The walk of a net's Watch: the watcher comes behind the others of its memory. Conditions: the lists within the form's own reach.
-/
namespace Go.Proofs.Ytlandkindbmbfaa.Wa
open Go.RowKit Plain
attribute [local go_sem ↓] Go.wp_at_zero Go.wp_at_succ

/-- Of what was there before nothing but the net's own may have turned. -/
structure NTurned (G : Nat → Nat) (w w' : World) : Prop where
  os : w'.os = w.os
  tape : w'.tape = w.tape
  output : w'.output = w.output
  size : w.heap.size ≤ w'.heap.size
  block : ∀ k, k < w.heap.size → G k = 0 → w'.heap[k]? = w.heap[k]?
theorem NTurned.of_below {G : Nat → Nat} {w w' : World} (h : Below w.heap.size w w') : NTurned G w w' := ⟨h.os, h.tape, h.output, h.size, fun k hk _ => h.block k hk⟩

def upd (I : WVals) (m : Nat) (v' f : Value) : WVals := ⟨fun j => if j = m then v' else I.v j, fun j => if j = m then I.fs m ++ [f] else I.fs j⟩
/-- No two lists of watchers in one block. -/
def WDis (I : WVals) (n : Nat) : Prop := ∀ i j, i < n → j < n → i ≠ j → ∀ k, (I.v i).ownBlock = some k → (I.v j).ownBlock ≠ some k
def WNil : WVals := ⟨fun _ => .slice none 0 0, fun _ => []⟩
theorem WDis.nil (n : Nat) : WDis WNil n := fun i j _ _ _ k hk => by simp [WNil, Value.ownBlock] at hk

theorem MemIs.swap {I J : WVals} {w : World} {G : Nat → Nat} {s : Shp} {i b : Nat} {l : List Int} (h : @MemIs ⟨I⟩ w G s i b l) (hv : J.v i = I.v i) (hf : J.fs i = I.fs i) : @MemIs ⟨J⟩ w G s i b l := by
  obtain ⟨h0, fv, rv, h1, h2, h3, h4, h5, h6⟩ := h
  refine ⟨h0, fv, rv, ?_, h2, h3, h4, ?_, ?_⟩
  · show w.heap[b]? = some (.cells #[fv, rv, J.v i] 105 (0, 0)); rw [hv]; exact h1
  · show w.ownsRow 0 73 1 (J.v i) (J.fs i).length (J.fs i); rw [hv, hf]; exact h5
  · intro k hk; exact h6 k (by show (I.v i).ownBlock = some k; rw [← hv]; exact hk)
theorem MNet.intro {J : WVals} {w : World} {G : Nat → Nat} {X n : Nat} {mv : Value} {ms : List Nat} {ss : List Shp} {ls : Nat → List Int} (zero : ∀ b, w.heap.size ≤ b → G b = 0) (tag : G X = 2)
    (net : w.heap[X]? = some (.cells #[mv, .int .i64 (n : Int)] 101 (0, 0))) (row : w.ownsRow 0 102 1 mv ss.length (ptrs ms)) (mtag : ∀ k, mv.ownBlock = some k → G k = 1) (mlen : ms.length = ss.length)
    (mem : ∀ (i b : Nat) (s : Shp), ss[i]? = some s → ms[i]? = some b → @MemIs ⟨J⟩ w G s i b (ls i)) : @MNet ⟨J⟩ w G X mv ms ss ls n := by
  letI : Inhabited WVals := ⟨J⟩
  exact ⟨zero, tag, net, row, mtag, mlen, mem⟩
theorem MNet.of_nil {w : World} {G : Nat → Nat} {X n : Nat} {mv : Value} {ms : List Nat} {ss : List Shp} {ls : Nat → List Int} (h : Go.Proofs.Ytlandkindbmbfaa.MNet w G X mv ms ss ls n) : @MNet ⟨WNil⟩ w G X mv ms ss ls n :=
  MNet.intro h.zero h.tag h.net h.row h.mtag h.mlen fun i b s h1 h2 => by
    obtain ⟨h0, fv, rv, h1, h2, h3, h4⟩ := h.mem i b s h1 h2
    exact ⟨h0, fv, rv, h1, h2, h3, h4, World.ownsRow_nil _ _ _ _, fun k hk => by
      have hk : (Value.slice none 0 0).ownBlock = some k := hk
      simp [Value.ownBlock] at hk⟩

theorem row_block {w : World} {B n size : Nat} {e : TypeId} {v : Value} {xs : List Value} (h : w.ownsRow B e size v n xs) {k : Nat} (hk : v.ownBlock = some k) : ∃ cs, w.heap[k]? = some (.cells cs e (0, 0)) := by
  rcases h.2 with ⟨rfl, _⟩ | ⟨g, cap, cur, rfl, _, hg, _⟩
  · simp [Value.ownBlock] at hk
  · have e2 : g = k := by simpa [Value.ownBlock] using hk
    subst e2
    exact ⟨_, hg⟩

section
variable {w w1 : World} {G : Nat → Nat} {X n : Nat} {mv : Value} {ms : List Nat} {ss : List Shp} {ls : Nat → List Int} {I : WVals}

theorem MNet.watch (h : @MNet ⟨I⟩ w G X mv ms ss ls n) (hd : WDis I ss.length) {m b : Nat} {s : Shp} (hs : ss[m]? = some s) (hm : ms[m]? = some b) {ob : Obj} {v' f : Value} (hg : (w.alloc ob).grownBy w1 (I.v m).ownBlock)
    (hown : w1.ownsRow 0 73 1 v' ((I.fs m).length + 1) (I.fs m ++ [f])) (hat : v'.ownBlock = (I.v m).ownBlock ∨ v'.ownBlock = some (w.alloc ob).heap.size) :
    ∃ G', @MNet ⟨upd I m v' f⟩ (w1.setCell ⟨b, 2, none⟩ v') G' X mv ms ss ls n ∧ WDis (upd I m v' f) ss.length ∧ (∀ k, k < w.heap.size → G' k = G k) ∧ NTurned G w (w1.setCell ⟨b, 2, none⟩ v') := by
  have hml : m < ss.length := (List.getElem?_eq_some_iff.1 hs).1
  letI : Inhabited WVals := ⟨I⟩
  obtain ⟨gb, fvm, rvm, hrb, FNm, rom, rtm, wom, wtm⟩ := h.mem m b s hs hm
  have wom : w.ownsRow 0 73 1 (I.v m) (I.fs m).length (I.fs m) := wom
  have wtm : ∀ k, (I.v m).ownBlock = some k → G k = 1 := wtm
  have hrb : w.heap[b]? = some (.cells #[fvm, rvm, I.v m] 105 (0, 0)) := hrb
  have hz := hg.size
  have hz0 : (w.alloc ob).heap.size = w.heap.size + 1 := by simp
  have hzs : (w1.setCell ⟨b, 2, none⟩ v').heap.size = w1.heap.size := by simp [World.setCell]
  have hblk : ∀ k, k < w.heap.size → k ≠ b → (I.v m).ownBlock ≠ some k → (w1.setCell ⟨b, 2, none⟩ v').heap[k]? = w.heap[k]? := fun k hk hkb hkw =>
    (Below.heap_setCell _ _ _ _ hkb).trans ((hg.block k (by omega) (fun e => hkw e.symm)).trans (Below.heap_alloc _ _ _ hk))
  have hwlt : ∀ k, (I.v m).ownBlock = some k → k < w.heap.size := fun k hk => (World.ownsRow.lt wom k hk).2
  have hnew : ∀ k, v'.ownBlock = some k → ((I.v m).ownBlock = some k ∧ k < w.heap.size) ∨ (w.heap.size ≤ k ∧ k < w1.heap.size) := fun k hk => by
    rcases hat with e | e
    · exact .inl ⟨e ▸ hk, hwlt k (e ▸ hk)⟩
    · have h1 := (World.ownsRow.lt hown k hk).2
      rw [hk] at e; have := Option.some.inj e; exact .inr ⟨by omega, h1⟩
  have hGold : ∀ k, k < w.heap.size → (if v'.ownBlock = some k then 1 else G k) = G k := fun k hk => by
    split
    · rename_i e
      rcases hnew k e with ⟨h1, _⟩ | ⟨h1, _⟩
      · exact (wtm k h1).symm
      · omega
    · rfl
  have hXb : X ≠ b := fun e => by rw [← e, h.tag] at gb; omega
  have hXw : (I.v m).ownBlock ≠ some X := fun e => by have := wtm X e; rw [h.tag] at this; cases this
  have hXl : X < w.heap.size := h.lt (by rw [h.tag]; decide)
  have hbw : (I.v m).ownBlock ≠ some b := fun e => by have := wtm b e; omega
  have hbl : b < w.heap.size := h.lt (by omega)
  refine ⟨fun k => if v'.ownBlock = some k then 1 else G k, MNet.intro (fun k hk => ?_) ?_ ((hblk X hXl hXb hXw).trans h.net) ?_ (fun k hk => ?_) h.mlen ?_, ?_, hGold, ⟨hg.os, hg.tape, hg.output, by omega, fun k hk hk0 => hblk k hk (fun e => by rw [e] at hk0; omega) (fun e => by have := wtm k e; omega)⟩⟩
  · show (if v'.ownBlock = some k then 1 else G k) = 0
    rw [if_neg (fun e => by rcases hnew k e with ⟨_, h1⟩ | ⟨_, h1⟩ <;> omega)]
    exact h.zero k (by omega)
  · show (if v'.ownBlock = some X then 1 else G X) = 2
    rw [hGold X hXl]; exact h.tag
  · refine row_keep h.row (fun k hk => ?_)
    have hkl := (World.ownsRow.lt h.row k hk).2
    refine hblk k hkl (fun e => by have := h.mtag k hk; rw [e] at this; omega) (fun e => ?_)
    rcases types_apart h.row wom (by decide) with h1 | h1
    · rw [h1] at hk; cases hk
    · exact h1 (hk.trans e.symm)
  · show (if v'.ownBlock = some k then 1 else G k) = 1
    rw [hGold k (World.ownsRow.lt h.row k hk).2]; exact h.mtag k hk
  · intro j c t ht hc
    by_cases e : j = m
    · subst e
      rw [hs] at ht; obtain rfl := Option.some.inj ht
      rw [hm] at hc; obtain rfl := Option.some.inj hc
      have hw1b : w1.heap[b]? = some (.cells #[fvm, rvm, I.v j] 105 (0, 0)) := (hg.block b (by omega) (fun e => hbw e.symm)).trans ((Below.heap_alloc _ _ _ hbl).trans hrb)
      have hvj : (upd I j v' f).v j = v' := if_pos rfl
      have hfj : (upd I j v' f).fs j = I.fs j ++ [f] := if_pos rfl
      have hfn : FnIs (w1.setCell ⟨b, 2, none⟩ v') (fun k => if v'.ownBlock = some k then 1 else G k) s fvm := by
        obtain ⟨bs, bc, cv, q, rfl, h1, h2, h3, h4, h5, h6⟩ := FNm
        have nbs : (I.v j).ownBlock ≠ some bs := fun e => by
          obtain ⟨cs, hcs⟩ := row_block wom e
          rw [h3] at hcs; simp at hcs
        have nbc : (I.v j).ownBlock ≠ some bc := fun e => by
          obtain ⟨cs, hcs⟩ := row_block wom e
          rw [h4] at hcs; simp at hcs
        refine ⟨bs, bc, cv, q, rfl, (hGold bs (h.lt (by omega))).trans h1, (hGold bc (h.lt (by omega))).trans h2, (hblk bs (h.lt (by omega)) (fun e => by rw [e] at h1; omega) nbs).trans h3, (hblk bc (h.lt (by omega)) (fun e => by rw [e] at h2; omega) nbc).trans h4, row_keep h5 (fun k hk => ?_), fun k hk => (hGold k (World.ownsRow.lt h5 k hk).2).trans (h6 k hk)⟩
        refine hblk k (World.ownsRow.lt h5 k hk).2 (fun e => by have := h6 k hk; rw [e] at this; omega) (fun e => ?_)
        rcases types_apart h5 wom (by decide) with h7 | h7
        · rw [h7] at hk; cases hk
        · exact h7 (hk.trans e.symm)
      refine ⟨(hGold b hbl).trans gb, fvm, rvm, ?_, hfn, row_keep rom (fun k hk => ?_), fun k hk => (hGold k (World.ownsRow.lt rom k hk).2).trans (rtm k hk), ?_, fun k hk => ?_⟩
      · show (w1.setCell ⟨b, 2, none⟩ v').heap[b]? = some (.cells #[fvm, rvm, (upd I j v' f).v j] 105 (0, 0))
        rw [hvj, block_setCell hw1b]; rfl
      · have := rtm k hk
        exact hblk k (World.ownsRow.lt rom k hk).2 (fun e => by rw [e] at this; omega) (fun e => by have := wtm k e; omega)
      · show (w1.setCell ⟨b, 2, none⟩ v').ownsRow 0 73 1 ((upd I j v' f).v j) ((upd I j v' f).fs j).length ((upd I j v' f).fs j)
        rw [hvj, hfj, List.length_append, List.length_singleton]
        refine row_keep hown (fun k hk => Below.heap_setCell _ _ _ _ (fun e => ?_))
        simp only at e
        rcases hnew k hk with ⟨h1, _⟩ | ⟨h1, _⟩
        · exact hbw (e ▸ h1)
        · omega
      · have hk : v'.ownBlock = some k := by
          have h1 : ((upd I j v' f).v j).ownBlock = some k := hk
          rw [hvj] at h1; exact h1
        exact if_pos hk
    · have hmem := h.mem j c t ht hc
      have hjl : j < ss.length := (List.getElem?_eq_some_iff.1 ht).1
      obtain ⟨g0, fv, rv, g1, g2, g3, g4, g5, g6⟩ := hmem
      have g5 : w.ownsRow 0 73 1 (I.v j) (I.fs j).length (I.fs j) := g5
      have g6 : ∀ k, (I.v j).ownBlock = some k → G k = 1 := g6
      have hcl : c < w.heap.size := h.lt (by omega)
      refine MemIs.swap (I := I) ?_ (if_neg e) (if_neg e)
      refine ⟨(hGold c hcl).trans g0, fv, rv, (hblk c hcl (fun e => by rw [e] at g0; omega) (fun e => by have := wtm c e; omega)).trans g1, ?_, row_keep g3 (fun k hk => ?_), fun k hk => (hGold k (World.ownsRow.lt g3 k hk).2).trans (g4 k hk), row_keep g5 (fun k hk => ?_), fun k hk => (hGold k (World.ownsRow.lt g5 k hk).2).trans (g6 k hk)⟩
      · obtain ⟨bs, bc, cv, q, rfl, h1, h2, h3, h4, h5, h6⟩ := g2
        have nbs : (I.v m).ownBlock ≠ some bs := fun e => by
          obtain ⟨cs, hcs⟩ := row_block wom e
          rw [h3] at hcs; simp at hcs
        have nbc : (I.v m).ownBlock ≠ some bc := fun e => by
          obtain ⟨cs, hcs⟩ := row_block wom e
          rw [h4] at hcs; simp at hcs
        refine ⟨bs, bc, cv, q, rfl, (hGold bs (h.lt (by omega))).trans h1, (hGold bc (h.lt (by omega))).trans h2, (hblk bs (h.lt (by omega)) (fun e => by rw [e] at h1; omega) nbs).trans h3, (hblk bc (h.lt (by omega)) (fun e => by rw [e] at h2; omega) nbc).trans h4, row_keep h5 (fun k hk => ?_), fun k hk => (hGold k (World.ownsRow.lt h5 k hk).2).trans (h6 k hk)⟩
        refine hblk k (World.ownsRow.lt h5 k hk).2 (fun e => by have := h6 k hk; rw [e] at this; omega) (fun e => ?_)
        rcases types_apart h5 wom (by decide) with h7 | h7
        · rw [h7] at hk; cases hk
        · exact h7 (hk.trans e.symm)
      · have := g4 k hk
        exact hblk k (World.ownsRow.lt g3 k hk).2 (fun e => by rw [e] at this; omega) (fun e => by have := wtm k e; omega)
      · have := g6 k hk
        exact hblk k (World.ownsRow.lt g5 k hk).2 (fun e => by rw [e] at this; omega) (fun e2 => hd j m hjl hml e k hk e2)
  · intro i j hi hj hij k hki hkj
    have ev : ∀ q, (upd I m v' f).v q = if q = m then v' else I.v q := fun _ => rfl
    rw [ev] at hki hkj
    have hlt : ∀ q, q < ss.length → ∀ k, (I.v q).ownBlock = some k → k < w.heap.size := fun q hq k hk => by
      have h1 := h.mem q (ms[q]'(by rw [h.mlen]; exact hq)) ss[q] (List.getElem?_eq_getElem hq) (List.getElem?_eq_getElem _)
      obtain ⟨_, _, _, _, _, _, _, h5, _⟩ := h1
      exact (World.ownsRow.lt h5 k hk).2
    by_cases h1 : i = m
    · rw [if_pos h1] at hki
      rw [if_neg (fun e => hij (h1.trans e.symm))] at hkj
      rcases hnew k hki with ⟨h2, _⟩ | ⟨h2, _⟩
      · exact hd m j hml hj (fun e => hij (h1.trans e)) k h2 hkj
      · have := hlt j hj k hkj; omega
    · rw [if_neg h1] at hki
      by_cases h3 : j = m
      · rw [if_pos h3] at hkj
        rcases hnew k hkj with ⟨h2, _⟩ | ⟨h2, _⟩
        · exact hd i m hi hml h1 k hki h2
        · have := hlt i hi k hki; omega
      · rw [if_neg h3] at hkj
        exact hd i j hi hj hij k hki hkj
end

end Go.Proofs.Ytlandkindbmbfaa.Wa
/-
  The walks of edictlaw10.told and edictlaw10.calls: the calls that are to come, and the comparison of two lists of calls. Conditions: the lists within the form's own reach.
-/
namespace Go.Proofs.Ytlandkindbmbfaa
open Go.RowKit Plain
attribute [local go_sem ↓] Go.wp_at_zero Go.wp_at_succ

/-- A call that came: who was told, of which memory, which row. -/
structure Cl where
  who : Int
  mem : Int
  row : Int
def clc (c : Cl) : List Value := [.int .i64 c.who, .int .i64 c.mem, .int .i64 c.row]
def flatC : List Cl → List Value
  | [] => []
  | c :: l => .int .i64 c.who :: .int .i64 c.mem :: .int .i64 c.row :: flatC l
theorem flatC_snoc (l : List Cl) (c : Cl) : flatC (l ++ [c]) = flatC l ++ [.int .i64 c.who, .int .i64 c.mem, .int .i64 c.row] := by
  induction l with
  | nil => rfl
  | cons x l ih => simp [flatC, ih]
theorem flatC_length (l : List Cl) : (flatC l).length = l.length * 3 := by
  induction l with
  | nil => rfl
  | cons x l ih => simp [flatC, ih]; omega
theorem flatC_get : ∀ (l : List Cl) (j : Nat) (c : Cl), l[j]? = some c → (flatC l)[j * 3]? = some (.int .i64 c.who) ∧ (flatC l)[j * 3 + 1]? = some (.int .i64 c.mem) ∧ (flatC l)[j * 3 + 2]? = some (.int .i64 c.row)
  | x :: l, 0, c, h => by simp at h; subst h; exact ⟨rfl, rfl, rfl⟩
  | x :: l, j + 1, c, h => by
    have h1 := flatC_get l j c (by simpa using h)
    have e : (j + 1) * 3 = j * 3 + 1 + 1 + 1 := by omega
    rw [e]
    exact h1
def OwnCls (w : World) (B : Nat) (v : Value) (l : List Cl) : Prop := w.ownsRow B 72 3 v l.length (flatC l)
theorem OwnCls.form {w : World} {B : Nat} {v : Value} {l : List Cl} (h : OwnCls w B v l) : ∃ a c, v = .slice a l.length c ∧ (l ≠ [] → ∃ g, a = some ⟨g, 0, none⟩) := by
  rcases Joins.ownsRow_forms h with ⟨rfl, h0⟩ | ⟨g, cap, rfl⟩
  · exact ⟨none, 0, by rw [h0], fun hn => absurd (List.length_eq_zero_iff.1 h0) hn⟩
  · exact ⟨some ⟨g, 0, none⟩, cap, rfl, fun _ => ⟨g, rfl⟩⟩
theorem OwnCls.get {w : World} {B g n c j : Nat} {l : List Cl} {x : Cl} (h : OwnCls w B (.slice (some ⟨g, 0, none⟩) n c) l) (hj : l[j]? = some x) :
    w.cell? ⟨g, j * 3, none⟩ = some (.int .i64 x.who) ∧ w.cell? ⟨g, j * 3 + 1, none⟩ = some (.int .i64 x.mem) ∧ w.cell? ⟨g, j * 3 + 2, none⟩ = some (.int .i64 x.row) := by
  have hjl : j < l.length := (List.getElem?_eq_some_iff.1 hj).1
  have e : n = l.length := by
    rcases Joins.ownsRow_forms h with ⟨h1, _⟩ | ⟨g', cap, h1⟩
    · cases h1
    · simp only [Value.slice.injEq] at h1; exact h1.2.1
  unfold OwnCls at h
  rw [e] at h
  obtain ⟨h1, h2, h3⟩ := flatC_get l j x hj
  exact ⟨by rw [World.ownsRow.cellAt h _ (by omega)]; exact h1, by rw [World.ownsRow.cellAt h _ (by omega)]; exact h2, by rw [World.ownsRow.cellAt h _ (by omega)]; exact h3⟩

/-- Who watches the memory x, of the first j. -/
def whosTo (watch : List Int) (x : Int) (j : Nat) : List Nat := (List.range j).filter fun i => at' watch i == x
def whos (watch : List Int) (x : Int) : List Nat := whosTo watch x watch.length
def tellOne (watch : List Int) (row x : Int) : List Cl := (whos watch x).map fun (i : Nat) => ⟨(i : Int), x, row⟩
def tellTo (watch : List Int) (row x : Int) (j : Nat) : List Cl := (whosTo watch x j).map fun (i : Nat) => ⟨(i : Int), x, row⟩
def tell (watch : List Int) (row : Int) (mems : List Int) : List Cl := mems.flatMap (tellOne watch row)
theorem whosTo_zero (watch : List Int) (x : Int) : whosTo watch x 0 = [] := rfl
theorem whosTo_yes {watch : List Int} {x : Int} {j : Nat} (h : at' watch j = x) : whosTo watch x (j + 1) = whosTo watch x j ++ [j] := by
  unfold whosTo; rw [List.range_succ, List.filter_append]; simp [h]
theorem whosTo_no {watch : List Int} {x : Int} {j : Nat} (h : at' watch j ≠ x) : whosTo watch x (j + 1) = whosTo watch x j := by
  unfold whosTo; rw [List.range_succ, List.filter_append]; simp [h]
theorem tellTo_zero (watch : List Int) (row x : Int) : tellTo watch row x 0 = [] := rfl
theorem tellTo_yes {watch : List Int} {row x : Int} {j : Nat} (h : at' watch j = x) : tellTo watch row x (j + 1) = tellTo watch row x j ++ [⟨(j : Int), x, row⟩] := by
  unfold tellTo; rw [whosTo_yes h, List.map_append]; rfl
theorem tellTo_no {watch : List Int} {row x : Int} {j : Nat} (h : at' watch j ≠ x) : tellTo watch row x (j + 1) = tellTo watch row x j := by
  unfold tellTo; rw [whosTo_no h]
theorem whosTo_len (watch : List Int) (x : Int) (j : Nat) : (whosTo watch x j).length ≤ j := by
  unfold whosTo; exact Nat.le_trans (List.length_filter_le _ _) (by simp)
theorem tellTo_len (watch : List Int) (row x : Int) (j : Nat) : (tellTo watch row x j).length ≤ j := by
  unfold tellTo; rw [List.length_map]; exact whosTo_len _ _ _
theorem tell_snoc (watch : List Int) (row : Int) (mems : List Int) (x : Int) : tell watch row (mems ++ [x]) = tell watch row mems ++ tellOne watch row x := by
  unfold tell; rw [List.flatMap_append]; simp
theorem tell_len (watch : List Int) (row : Int) (mems : List Int) : (tell watch row mems).length ≤ mems.length * watch.length := by
  induction mems with
  | nil => simp [tell]
  | cons x l ih =>
    have : tell watch row (x :: l) = tellOne watch row x ++ tell watch row l := by simp [tell]
    rw [this, List.length_append, List.length_cons, Nat.succ_mul]
    have h1 : (tellOne watch row x).length ≤ watch.length := tellTo_len watch row x watch.length
    omega

/-- A list of calls has grown, and nothing else has turned. -/
structure GrwC (B : Nat) (v : Value) (w : World) (l : List Cl) (v' : Value) (w' : World) : Prop where
  own : OwnCls w' B v' l
  os : w'.os = w.os
  tape : w'.tape = w.tape
  output : w'.output = w.output
  size : w.heap.size ≤ w'.heap.size
  block : ∀ k, k < w.heap.size → v.ownBlock ≠ some k → w'.heap[k]? = w.heap[k]?
  at' : ∀ k, v'.ownBlock = some k → v.ownBlock = some k ∨ w.heap.size ≤ k
section
variable {B : Nat} {v v' v2 : Value} {w w' w2 : World} {l : List Cl}
theorem GrwC.refl (h : OwnCls w B v l) : GrwC B v w l v w := ⟨h, rfl, rfl, rfl, Nat.le_refl _, fun _ _ _ => rfl, fun _ h => .inl h⟩
theorem GrwC.more {l2 : List Cl} {o : Obj} (h : GrwC B v w l v' w') (hg : (w'.alloc o).grownBy w2 v'.ownBlock) (hown : OwnCls w2 B v2 l2) (hat : v2.ownBlock = v'.ownBlock ∨ v2.ownBlock = some (w'.alloc o).heap.size) : GrwC B v w l2 v2 w2 := by
  have hz := hg.size
  have hz0 : (w'.alloc o).heap.size = w'.heap.size + 1 := by simp
  have hs := h.size
  refine ⟨hown, hg.os.trans h.os, hg.tape.trans h.tape, hg.output.trans h.output, by omega, fun k hk hne => ?_, fun k hk => ?_⟩
  · exact (hg.block k (by omega) (fun e => by rcases h.at' k e.symm with h1 | h1; exact hne h1; omega)).trans ((Below.heap_alloc _ _ _ (by omega)).trans (h.block k hk hne))
  · rcases hat with e | e
    · exact h.at' k (e ▸ hk)
    · rw [hk] at e; have := Option.some.inj e; exact .inr (by omega)
theorem GrwC.up (h : GrwC B v w l v' w') (hb : Below w'.heap.size w' w2) : GrwC B v w l v' w2 :=
  ⟨row_keep h.own (fun k hk => hb.block k (World.ownsRow.lt h.own k hk).2), hb.os.trans h.os, hb.tape.trans h.tape, hb.output.trans h.output, Nat.le_trans h.size hb.size, fun k hk hne => (hb.block k (Nat.lt_of_lt_of_le hk h.size)).trans (h.block k hk hne), h.at'⟩
/-- A list of numbers stays. -/
theorem GrwC.ints (h : GrwC B v w l v' w') {u : Value} {m : List Int} (hu : IntsAt w w.heap.size u m) (hub : m ≠ [] → ∀ k, u.ownBlock = some k → v.ownBlock ≠ some k) : IntsAt w' w'.heap.size u m := by
  obtain ⟨a, cap, rfl, hc⟩ := hu
  refine ⟨a, cap, rfl, ?_⟩
  by_cases hl : m = []
  · exact .inl hl
  · obtain ⟨g, off, rfl, hg, hc⟩ := hc.resolve_left hl
    exact .inr ⟨g, off, rfl, Nat.lt_of_lt_of_le hg h.size, fun j hj => (World.cell?_of_block (h.block g hg (hub hl g rfl))).trans (hc j hj)⟩
end

theorem Try.info72 : (Try.prog.info? 72).map (fun i => (i.zero, i.size, i.bytes)) = some (some (.agg #[.int .i64 0, .int .i64 0, .int .i64 0]), 3, 24) := by kernel_rfl
theorem one_call (a b c : Int) : ∀ x ∈ [Value.int .i64 a, .int .i64 b, .int .i64 c], x.oneCell' = true := by
  intro x hx
  simp only [List.mem_cons, List.not_mem_nil, or_false] at hx
  rcases hx with rfl | rfl | rfl <;> rfl


theorem IntsAt.cellAt {w : World} {B n c j : Nat} {a : Option Addr} {l : List Int} (h : IntsAt w B (.slice a n c) l) (hj : j < l.length) : ∃ g off, a = some ⟨g, off, none⟩ ∧ w.cell? ⟨g, off + j, none⟩ = some (.int .i64 (at' l j)) := by
  obtain ⟨a', cap, e, h⟩ := h
  simp only [Value.slice.injEq] at e
  obtain ⟨rfl, rfl, rfl⟩ := e
  rcases h with rfl | ⟨g, off, rfl, hg, hc⟩
  · simp at hj
  · exact ⟨g, off, rfl, hc j hj⟩

set_option maxRecDepth 100000 in
set_option maxHeartbeats 3200000 in
theorem told_any (B : Nat) (l : List Cl) (v : Value) (watch mems : List Int) (u m : Value) (row : Int) (w : World) (hB : B ≤ w.heap.size) (hv : OwnCls w B v l) (hu : IntsAt w w.heap.size u watch) (hm : IntsAt w w.heap.size m mems)
    (hub : watch ≠ [] → ∀ k, u.ownBlock = some k → v.ownBlock ≠ some k) (hmb : mems ≠ [] → ∀ k, m.ownBlock = some k → v.ownBlock ≠ some k) (hw : watch.length ≤ 1048576) (hmm : mems.length ≤ 1048576) (hl : l.length + mems.length * watch.length ≤ 4398046511104) :
    Calls Try.prog 42 #[v, u, m, .int .i64 row] w fun e w' => ∃ v', e = .returned v' ∧ GrwC B v w (l ++ tell watch row mems) v' w' := by
  obtain ⟨i72, ci, c0, c1, c2⟩ := info_parts Try.info72
  obtain ⟨au, cu, rfl, _⟩ := id hu
  obtain ⟨am, cm, rfl, _⟩ := id hm
  have HU := Lib.hid hu
  have HM := Lib.hid hm
  have HUB := Lib.hid hub
  have HMB := Lib.hid hmb
  have H0 := Lib.hid (GrwC.refl hv)
  clear hu hm hub hmb hv
  go_enter Try.func42, Try.ntmps42
  go_wp2
  go_loopw [0, 9] (fun o k wr => ∃ (v' : Value) (i : Nat), v' = o ∧ k = .int .i64 (i : Int) ∧ i ≤ mems.length ∧ Hid (GrwC B v w (l ++ tell watch row (mems.take i)) v' wr)) (fun _ k _ => mems.length - (intOf k).toNat)
  case atStart => exact ⟨_, 0, rfl, rfl, Nat.zero_le _, by rw [List.take_zero]; simpa [tell] using H0⟩
  case round =>
    obtain ⟨v1, i, rfl, rfl, hil, HG⟩ := hrel
    by_cases h1 : i < mems.length
    · obtain ⟨l1, hl1⟩ : ∃ l1, l1 = l ++ tell watch row (mems.take i) := ⟨_, rfl⟩
      rw [← hl1] at HG
      have hl1n : l1.length + watch.length ≤ 4398046511104 := by
        have h2 := tell_len watch row (mems.take i)
        rw [List.length_take, Nat.min_eq_left hil] at h2
        have h3 : (i + 1) * watch.length ≤ mems.length * watch.length := Nat.mul_le_mul_right _ h1
        rw [Nat.succ_mul] at h3
        rw [hl1, List.length_append]; omega
      obtain ⟨x, hx⟩ : ∃ x, x = at' mems i := ⟨_, rfl⟩
      have HL1 := Lib.hid hl1
      have HX := Lib.hid hx
      clear hl1 hx
      go_wp2
      go_loopw [0, 10] (fun o k wx => ∃ (v' : Value) (j : Nat), v' = o ∧ k = .int .i64 (j : Int) ∧ j ≤ watch.length ∧ Hid (GrwC B v w (l1 ++ tellTo watch row x j) v' wx)) (fun _ k _ => watch.length - (intOf k).toNat)
      case atStart => exact ⟨_, 0, rfl, rfl, Nat.zero_le _, by rw [tellTo_zero, List.append_nil]; exact HG⟩
      case round =>
        obtain ⟨v2, j, rfl, rfl, hjl, HG2⟩ := hrel
        by_cases h2 : j < watch.length
        · obtain ⟨gu, ou, rfl, d0⟩ := (HG2.out.ints HU.out HUB.out).cellAt h2
          obtain ⟨gm, om, rfl, d1⟩ := (HG2.out.ints HM.out HMB.out).cellAt h1
          rw [← HX.out] at d1
          obtain ⟨y, hy⟩ : ∃ y, y = at' watch j := ⟨_, rfl⟩
          rw [← hy] at d0
          have HY := Lib.hid hy
          have hlen : (l1 ++ tellTo watch row x j).length ≤ 4398046511104 := by
            have := tellTo_len watch row x j
            rw [List.length_append]; omega
          obtain ⟨l2, hl2⟩ : ∃ l2, l2 = l1 ++ tellTo watch row x j := ⟨_, rfl⟩
          rw [← hl2] at HG2 hlen
          have HL2 := Lib.hid hl2
          clear hy hl2
          by_cases h3 : y = x
          · have hyx : (y == x) = true := by simpa using h3
            go_wp2_with fail
            go_quiet (fail)
            generalize hW : wr.drewN _ = w2
            have hbw : Below wr.heap.size wr w2 := by rw [← hW]; exact ⟨rfl, rfl, rfl, Nat.le_refl _, fun _ _ => rfl⟩
            have HG3 := Lib.hid (HG2.out.up hbw)
            have e0 : w2.cell? ⟨gm, om + i, none⟩ = some (.int .i64 x) := by rw [← hW]; exact d1
            have hBw : B ≤ w2.heap.size := Nat.le_trans hB HG3.out.size
            clear hW hbw d0 d1 HG2
            go_wp2_with (at_builtin; refine wpList_append_own_at _ rfl _ _ 69 rfl B 72 i72 (.agg #[.int .i64 0, .int .i64 0, .int .i64 0]) 3 24 Try.underlying69 ci c0 c1 c2 rfl (by decide) v2 l2.length (flatC l2) rfl (World.ownsRow.alloc HG3.out.own (.cells #[.int .i64 (j : Int), .int .i64 x, .int .i64 row] 72)) ⟨w2.heap.size, 0, none⟩ 1 1 [.int .i64 (j : Int), .int .i64 x, .int .i64 row] rfl rfl (World.news_of_block (cs := #[.int .i64 (j : Int), .int .i64 x, .int .i64 row]) (t := 72) (fr := (0, 0)) (heap_alloc_new w2 _)) (one_call _ _ _) (by unfold maxLen; omega) (by omega) (by simp; omega) ?_; intro v' w3 hown' hgrow _ hat)
            have HG4 := Lib.hid (HG3.out.more (l2 := l2 ++ [⟨(j : Int), x, row⟩]) hgrow (by unfold OwnCls; rw [flatC_snoc, List.length_append, List.length_singleton]; exact hown') hat)
            go_roundw
            case rel =>
              refine ⟨_, j + 1, rfl, by go_num, by omega, ?_⟩
              rw [tellTo_yes (by rw [← HY.out]; exact h3), ← List.append_assoc, ← HL2.out]
              exact HG4
            case measure => simp only [intOf]; omega
          · have hyx : (y == x) = false := by simpa using h3
            go_wp2_with fail
            go_quiet (fail)
            generalize hW : wr.drewN _ = w2
            have hbw : Below wr.heap.size wr w2 := by rw [← hW]; exact ⟨rfl, rfl, rfl, Nat.le_refl _, fun _ _ => rfl⟩
            have HG3 := Lib.hid (HG2.out.up hbw)
            clear hW hbw d0 d1 HG2
            go_wp2
            go_roundw
            case rel =>
              refine ⟨_, j + 1, rfl, by go_num, by omega, ?_⟩
              rw [tellTo_no (by rw [← HY.out]; exact h3), ← HL2.out]
              exact HG3
            case measure => simp only [intOf]; omega
        · have hj : j = watch.length := by omega
          rw [hj] at HG2
          clear hj
          go_wp2
          go_roundw
          case rel =>
            refine ⟨_, i + 1, rfl, by go_num, by omega, ?_⟩
            rw [take_one (show mems[i]? = some x by rw [HX.out]; unfold at'; rw [List.getElem?_eq_getElem h1]; rfl), tell_snoc, ← List.append_assoc, ← HL1.out]
            exact HG2
          case measure => simp only [intOf]; omega
    · have e : i = mems.length := by omega
      rw [e, List.take_length] at HG
      clear e
      go_wp2
      go_ret
      exact ⟨_, rfl, HG.out⟩

set_option maxRecDepth 100000 in
set_option maxHeartbeats 3200000 in
theorem calls_same (B : Nat) (l : List Cl) (va vb : Value) (w : World) (ha : OwnCls w B va l) (hb : OwnCls w B vb l) (hl : l.length ≤ 4398046511104) : Calls Try.prog 44 #[va, vb] w (BoolIs w true) := by
  obtain ⟨a, ca, rfl, hga⟩ := ha.form
  obtain ⟨b, cb, rfl, hgb⟩ := hb.form
  have HA := Lib.hid ha
  have HB := Lib.hid hb
  have HGA := Lib.hid hga
  have HGB := Lib.hid hgb
  clear ha hb hga hgb
  go_enter Try.func44, Try.ntmps44
  go_wp2
  go_loopw [5] (fun k wr => ∃ i : Nat, k = .int .i64 (i : Int) ∧ i ≤ l.length ∧ Hid (Below w.heap.size w wr)) (fun k _ => l.length - (intOf k).toNat)
  case atStart => exact ⟨0, rfl, Nat.zero_le _, Lib.hid (Below.refl _ _)⟩
  case round =>
    obtain ⟨i, rfl, hil, NX⟩ := hrel
    by_cases h1 : i < l.length
    · obtain ⟨ga, rfl⟩ := HGA.out (ne_of_lt_len h1)
      obtain ⟨gb, rfl⟩ := HGB.out (ne_of_lt_len h1)
      obtain ⟨x, y, z, hx⟩ : ∃ x y z, l[i]? = some ⟨x, y, z⟩ := ⟨l[i].who, l[i].mem, l[i].row, List.getElem?_eq_getElem h1⟩
      obtain ⟨p0, p1, p2⟩ := HA.out.get hx
      obtain ⟨q0, q1, q2⟩ := HB.out.get hx
      have hla := (World.ownsRow.lt HA.out ga rfl).2
      have hlb := (World.ownsRow.lt HB.out gb rfl).2
      have p0 := below_cells NX.out hla p0
      have p1 := below_cells NX.out hla p1
      have p2 := below_cells NX.out hla p2
      have q0 := below_cells NX.out hlb q0
      have q1 := below_cells NX.out hlb q1
      have q2 := below_cells NX.out hlb q2
      clear hx
      go_wp2_with fail
      go_quiet (fail)
      generalize hW : wr.drewN _ = w2
      have hbw : Below wr.heap.size wr w2 := by rw [← hW]; exact ⟨rfl, rfl, rfl, Nat.le_refl _, fun _ _ => rfl⟩
      have NX2 := Lib.hid (NX.out.trans (hbw.mono NX.out.size))
      clear hW hbw p0 p1 p2 q0 q1 q2
      go_wp2
      go_roundw
      case rel => exact ⟨i + 1, by go_num, by omega, NX2⟩
      case measure => simp only [intOf]; omega
    · have e : i = l.length := by omega
      subst e
      go_wp2
      go_ret
      exact ⟨rfl, NX.out⟩
end Go.Proofs.Ytlandkindbmbfaa
/-
  The law AlphaWatches between two calls: the two nets, the variables that the watchers share, and the calls that came so far. No condition beyond those that each lemma states.
-/
namespace Go.Proofs.Ytlandkindbmbfaa.Wa
open Go.RowKit Plain
attribute [local go_sem ↓] Go.wp_at_zero Go.wp_at_succ

/-- Where the law's variables lie. -/
structure Bx where
  g : Nat
  l : Nat
  n : Nat
  m : Nat
  s : Nat
  who : Nat → Nat
def ptr0 (b : Nat) : Value := .pointer (some ⟨b, 0, none⟩)
/-- The watcher number j. -/
def clos (b : Bx) (j : Nat) : Value := .func (.func 40) #[] #[.pointer (some ⟨b.g, 0, none⟩), .pointer (some ⟨b.who j, 0, none⟩), .pointer (some ⟨b.l, 0, none⟩), .pointer (some ⟨b.n, 0, none⟩), .pointer (some ⟨b.m, 0, none⟩), .pointer (some ⟨b.s, 0, none⟩)]

structure Boxes (b : Bx) (nw X X2 : Nat) (sval gv : Value) (w : World) : Prop where
  g : w.heap[b.g]? = some (.cells #[gv] 69 (0, 0))
  l : w.heap[b.l]? = some (.cells #[.bool false] 4 (0, 0))
  n : w.heap[b.n]? = some (.cells #[.pointer (some ⟨X, 0, none⟩)] 61 (0, 0))
  m : w.heap[b.m]? = some (.cells #[.pointer (some ⟨X2, 0, none⟩)] 57 (0, 0))
  s : w.heap[b.s]? = some (.cells #[sval] 22 (0, 0))
  who : ∀ j, j < nw → w.heap[b.who j]? = some (.cells #[.int .i64 (j : Int)] 3 (0, 0))
structure BoxZ (b : Bx) (nw : Nat) (G : Nat → Nat) : Prop where
  g : G b.g = 0
  l : G b.l = 0
  n : G b.n = 0
  m : G b.m = 0
  s : G b.s = 0
  who : ∀ j, j < nw → G (b.who j) = 0

theorem not_own {w : World} {B n size : Nat} {e t : TypeId} {v : Value} {xs : List Value} {k : Nat} {cs : Array Value} (h : w.ownsRow B e size v n xs) (hk : w.heap[k]? = some (.cells cs t (0, 0))) (hne : t ≠ e) : v.ownBlock ≠ some k := fun e2 => by
  obtain ⟨cs2, h2⟩ := row_block h e2
  rw [hk] at h2
  simp only [Option.some.injEq, Obj.cells.injEq] at h2
  exact hne h2.2.1

/-- What the law knows between two calls. -/
structure WS [Inhabited WVals] (wB : World) (X : Nat) (mv : Value) (ms : List Nat) (ss : List Shp) (X2 : Nat) (sv : Value) (b : Bx) (nw : Nat) (sval : Value) (ra rd : List Shp) (done : List Cl) (wr : World) (G : Nat → Nat) (rv gv : Value) : Prop where
  both : Both wB X mv ms ss X2 sv ra rd wr G rv
  box : Boxes b nw X X2 sval gv wr
  zero : BoxZ b nw G
  own : OwnCls wr wB.heap.size gv done
  gz : ∀ k, gv.ownBlock = some k → G k = 0
  gge : wB.heap.size ≤ b.g
  lge : wB.heap.size ≤ b.l

section
variable {wB wr w1 : World} {X X2 nw : Nat} {mv sv sval rv rv' gv gv' : Value} {ms : List Nat} {ss ra rd ra' rd' : List Shp} {b : Bx} {done done' : List Cl} {G G' : Nat → Nat}
theorem Boxes.keep (h : Boxes b nw X X2 sval gv wr) (hk : ∀ k cs t, wr.heap[k]? = some (.cells cs t (0, 0)) → (k = b.g ∨ k = b.l ∨ k = b.n ∨ k = b.m ∨ k = b.s ∨ ∃ j, j < nw ∧ k = b.who j) → t ≠ 33 → t ≠ 98 → w1.heap[k]? = wr.heap[k]?) : Boxes b nw X X2 sval gv w1 :=
  ⟨(hk _ _ _ h.g (by simp) (by decide) (by decide)).trans h.g, (hk _ _ _ h.l (by simp) (by decide) (by decide)).trans h.l, (hk _ _ _ h.n (by simp) (by decide) (by decide)).trans h.n, (hk _ _ _ h.m (by simp) (by decide) (by decide)).trans h.m, (hk _ _ _ h.s (by simp) (by decide) (by decide)).trans h.s,
    fun j hj => (hk _ _ _ (h.who j hj) (.inr (.inr (.inr (.inr (.inr ⟨j, hj, rfl⟩))))) (by decide) (by decide)).trans (h.who j hj)⟩
theorem BoxZ.of (h : BoxZ b nw G) {k : Nat} (hk : k = b.g ∨ k = b.l ∨ k = b.n ∨ k = b.m ∨ k = b.s ∨ ∃ j, j < nw ∧ k = b.who j) : G k = 0 := by
  rcases hk with rfl | rfl | rfl | rfl | rfl | ⟨j, hj, rfl⟩
  · exact h.g
  · exact h.l
  · exact h.n
  · exact h.m
  · exact h.s
  · exact h.who j hj
theorem BoxZ.keep (h : BoxZ b nw G) (hx : Boxes b nw X X2 sval gv wr) (hG : ∀ k, k < wr.heap.size → G' k = G k) : BoxZ b nw G' :=
  ⟨(hG _ (lt_of_block hx.g)).trans h.g, (hG _ (lt_of_block hx.l)).trans h.l, (hG _ (lt_of_block hx.n)).trans h.n, (hG _ (lt_of_block hx.m)).trans h.m, (hG _ (lt_of_block hx.s)).trans h.s, fun j hj => (hG _ (lt_of_block (hx.who j hj))).trans (h.who j hj)⟩

/-- From w to w' a call came: nothing but the list of the calls and the mark of the late ones may have turned. -/
structure Cbk (b : Bx) (gv : Value) (w w' : World) (gv' : Value) : Prop where
  os : w'.os = w.os
  tape : w'.tape = w.tape
  output : w'.output = w.output
  size : w.heap.size ≤ w'.heap.size
  block : ∀ k, k < w.heap.size → k ≠ b.g → k ≠ b.l → gv.ownBlock ≠ some k → w'.heap[k]? = w.heap[k]?
  at' : ∀ k, gv'.ownBlock = some k → gv.ownBlock = some k ∨ w.heap.size ≤ k
theorem Cbk.refl (b : Bx) (gv : Value) (w : World) : Cbk b gv w w gv := ⟨rfl, rfl, rfl, Nat.le_refl _, fun _ _ _ _ _ => rfl, fun _ h => .inl h⟩
theorem Cbk.trans {w w1 w2 : World} {gv2 : Value} (h : Cbk b gv w w1 gv') (k : Cbk b gv' w1 w2 gv2) : Cbk b gv w w2 gv2 :=
  ⟨k.os.trans h.os, k.tape.trans h.tape, k.output.trans h.output, Nat.le_trans h.size k.size, fun i hi h1 h2 h3 => (k.block i (Nat.lt_of_lt_of_le hi h.size) h1 h2 (fun e => by rcases h.at' i e with h4 | h4; exact h3 h4; omega)).trans (h.block i hi h1 h2 h3),
    fun i hi => by
      rcases k.at' i hi with h1 | h1
      · exact h.at' i h1
      · exact .inr (Nat.le_trans h.size h1)⟩

end

section
variable [Inhabited WVals]
variable {wB wr w1 : World} {X X2 nw : Nat} {mv sv sval rv rv' gv gv' : Value} {ms : List Nat} {ss ra rd ra' rd' : List Shp} {b : Bx} {done done' : List Cl} {G G' : Nat → Nat}

/-- The nets work on; the law's own variables stay. -/
theorem WS.keep (h : WS wB X mv ms ss X2 sv b nw sval ra rd done wr G rv gv) (hB : Both wB X mv ms ss X2 sv ra' rd' w1 G' rv') (hb : ∀ k, k < wr.heap.size → G k = 0 → k ≠ X2 → rv.ownBlock ≠ some k → w1.heap[k]? = wr.heap[k]?) (hG : ∀ k, k < wr.heap.size → G' k = G k) :
    WS wB X mv ms ss X2 sv b nw sval ra' rd' done w1 G' rv' gv := by
  obtain ⟨vs, hvl, ho, _⟩ := h.both.rows
  have key : ∀ k cs t, wr.heap[k]? = some (.cells cs t (0, 0)) → G k = 0 → t ≠ 33 → t ≠ 98 → w1.heap[k]? = wr.heap[k]? := fun k cs t hk h0 h1 h2 =>
    hb k (lt_of_block hk) h0 (fun e => by rw [e, h.both.box] at hk; simp only [Option.some.injEq, Obj.cells.injEq] at hk; exact h2 hk.2.1.symm) (not_own ho hk h1)
  refine ⟨hB, h.box.keep (fun k cs t hk hx h1 h2 => key k cs t hk (h.zero.of hx) h1 h2), h.zero.keep h.box hG, row_keep h.own (fun k hk => ?_), fun k hk => (hG k (World.ownsRow.lt h.own k hk).2).trans (h.gz k hk), h.gge, h.lge⟩
  obtain ⟨cs, hc⟩ := row_block h.own hk
  exact key k cs 72 hc (h.gz k hk) (by decide) (by decide)
theorem WS.up (h : WS wB X mv ms ss X2 sv b nw sval ra rd done wr G rv gv) (hb : Below wr.heap.size wr w1) : WS wB X mv ms ss X2 sv b nw sval ra rd done w1 G rv gv :=
  h.keep (h.both.up hb) (fun k hk _ _ _ => hb.block k hk) (fun _ _ => rfl)
theorem WS.trn (h : WS wB X mv ms ss X2 sv b nw sval ra rd done wr G rv gv) (hB : Both wB X mv ms ss X2 sv ra' rd' w1 G rv') (ht : Trn G X2 rv wr w1) : WS wB X mv ms ss X2 sv b nw sval ra' rd' done w1 G rv' gv :=
  h.keep hB (fun k hk h0 h1 h2 => ht.block k hk (by omega) h1 h2) (fun _ _ => rfl)

theorem WS.cg (h : WS wB X mv ms ss X2 sv b nw sval ra rd done wr G rv gv) : wr.cell? ⟨b.g, 0, none⟩ = some gv := by have := h.box.g; simp only [World.cell?, this]; rfl
theorem WS.fg (h : WS wB X mv ms ss X2 sv b nw sval ra rd done wr G rv gv) : wr.frozen? ⟨b.g, 0, none⟩ = false := by have := h.box.g; simp only [World.frozen?, this]; rfl
theorem WS.cl (h : WS wB X mv ms ss X2 sv b nw sval ra rd done wr G rv gv) : wr.cell? ⟨b.l, 0, none⟩ = some (.bool false) := by have := h.box.l; simp only [World.cell?, this]; rfl
theorem WS.fl (h : WS wB X mv ms ss X2 sv b nw sval ra rd done wr G rv gv) : wr.frozen? ⟨b.l, 0, none⟩ = false := by have := h.box.l; simp only [World.frozen?, this]; rfl
theorem WS.cn (h : WS wB X mv ms ss X2 sv b nw sval ra rd done wr G rv gv) : wr.cell? ⟨b.n, 0, none⟩ = some (.pointer (some ⟨X, 0, none⟩)) := by have := h.box.n; simp only [World.cell?, this]; rfl
theorem WS.cm (h : WS wB X mv ms ss X2 sv b nw sval ra rd done wr G rv gv) : wr.cell? ⟨b.m, 0, none⟩ = some (.pointer (some ⟨X2, 0, none⟩)) := by have := h.box.m; simp only [World.cell?, this]; rfl
theorem WS.cs (h : WS wB X mv ms ss X2 sv b nw sval ra rd done wr G rv gv) : wr.cell? ⟨b.s, 0, none⟩ = some sval := by have := h.box.s; simp only [World.cell?, this]; rfl
theorem WS.cw (h : WS wB X mv ms ss X2 sv b nw sval ra rd done wr G rv gv) {j : Nat} (hj : j < nw) : wr.cell? ⟨b.who j, 0, none⟩ = some (.int .i64 (j : Int)) := by have := h.box.who j hj; simp only [World.cell?, this]; rfl

theorem Both.other (h : Both wB X mv ms ss X2 sv ra rd wr G rv) (S : Nat → Prop) (hs : wr.heap.size ≤ w1.heap.size) (ho : w1.os = wr.os) (ht : w1.tape = wr.tape) (hp : w1.output = wr.output) (hb : ∀ k, k < wr.heap.size → ¬ S k → w1.heap[k]? = wr.heap[k]?)
    (hS0 : ∀ k, S k → G k = 0) (hSB : ∀ k, S k → wB.heap.size ≤ k) (hSt : ∀ k, S k → ∃ cs t, wr.heap[k]? = some (.cells cs t (0, 0)) ∧ t ≠ 33 ∧ t ≠ 3) : Both wB X mv ms ss X2 sv ra rd w1 G rv := by
  have hx := h.lt2
  have hz := h.exc.size
  refine ⟨h.net.keep hs (fun k hk => hb k (h.net.lt hk) (fun hS => hk (hS0 k hS))), h.zero, hx, (hb X2 (by omega) (fun hS => by have := hSB X2 hS; omega)).trans h.box, ?_, h.exc.trans hs ho ht hp (fun k hk _ => hb k (by omega) (fun hS => by have := hSB k hS; omega))⟩
  obtain ⟨vs, hl, hw, hz2, hi⟩ := h.rows
  refine ⟨vs, hl, row_keep hw (fun k hk => hb k (World.ownsRow.lt hw k hk).2 (fun hS => ?_)), hz2, fun j s u h1 h2 => ?_⟩
  · obtain ⟨cs, t, e, h1, _⟩ := hSt k hS
    exact not_own hw e h1 hk
  · obtain ⟨h3, h4⟩ := hi j s u h1 h2
    refine ⟨row_keep h3 (fun k hk => hb k (World.ownsRow.lt h3 k hk).2 (fun hS => ?_)), h4⟩
    obtain ⟨cs, t, e, _, h5⟩ := hSt k hS
    exact not_own h3 e h5 hk
/-- A call more is listed. -/
theorem WS.list (h : WS wB X mv ms ss X2 sv b nw sval ra rd done wr G rv gv) {w2 : World} {o : Obj} {c : Cl} (hg : (wr.alloc o).grownBy w2 gv.ownBlock) (hown : OwnCls w2 wB.heap.size gv' (done ++ [c])) (hat : gv'.ownBlock = gv.ownBlock ∨ gv'.ownBlock = some (wr.alloc o).heap.size) :
    WS wB X mv ms ss X2 sv b nw sval ra rd (done ++ [c]) (w2.setCell ⟨b.g, 0, none⟩ gv') G rv gv' ∧ Cbk b gv wr (w2.setCell ⟨b.g, 0, none⟩ gv') gv' := by
  have hz := hg.size
  have hz0 : (wr.alloc o).heap.size = wr.heap.size + 1 := by simp
  have hzs : (w2.setCell ⟨b.g, 0, none⟩ gv').heap.size = w2.heap.size := by simp [World.setCell]
  have hbg : b.g < wr.heap.size := lt_of_block h.box.g
  have hngg : gv.ownBlock ≠ some b.g := not_own h.own h.box.g (by decide)
  have hblk : ∀ k, k < wr.heap.size → k ≠ b.g → gv.ownBlock ≠ some k → (w2.setCell ⟨b.g, 0, none⟩ gv').heap[k]? = wr.heap[k]? := fun k hk h1 h2 =>
    (Below.heap_setCell _ _ _ _ h1).trans ((hg.block k (by omega) (fun e => h2 e.symm)).trans (Below.heap_alloc _ _ _ hk))
  have hBz := h.both.exc.size
  have hglt : ∀ k, gv.ownBlock = some k → wB.heap.size ≤ k ∧ k < wr.heap.size := fun k hk => World.ownsRow.lt h.own k hk
  have hnew : ∀ k, gv'.ownBlock = some k → gv.ownBlock = some k ∨ wr.heap.size ≤ k := fun k hk => by
    rcases hat with e | e
    · exact .inl (e ▸ hk)
    · rw [hk] at e; have := Option.some.inj e; exact .inr (by omega)
  obtain ⟨vs, hvl, ho, _⟩ := h.both.rows
  have hboth : Both wB X mv ms ss X2 sv ra rd (w2.setCell ⟨b.g, 0, none⟩ gv') G rv := by
    refine h.both.other (fun k => k = b.g ∨ gv.ownBlock = some k) (by omega) hg.os hg.tape hg.output (fun k hk hS => hblk k hk (fun e => hS (.inl e)) (fun e => hS (.inr e))) (fun k hS => ?_) (fun k hS => ?_) (fun k hS => ?_)
    · rcases hS with rfl | e
      · exact h.zero.g
      · exact h.gz k e
    · rcases hS with rfl | e
      · exact h.gge
      · exact (hglt k e).1
    · rcases hS with rfl | e
      · exact ⟨_, _, h.box.g, by decide, by decide⟩
      · obtain ⟨cs, hc⟩ := row_block h.own e
        exact ⟨_, _, hc, by decide, by decide⟩
  refine ⟨⟨hboth, ⟨?_, ?_, ?_, ?_, ?_, fun j hj => ?_⟩, h.zero, ?_, fun k hk => ?_, h.gge, h.lge⟩, ⟨hg.os, hg.tape, hg.output, by omega, fun k hk h1 _ h2 => hblk k hk h1 h2, hnew⟩⟩
  · have e : w2.heap[b.g]? = some (.cells #[gv] 69 (0, 0)) := (hg.block b.g (by omega) (fun e => hngg e.symm)).trans ((Below.heap_alloc _ _ _ hbg).trans h.box.g)
    rw [block_setCell e]; rfl
  · exact (hblk _ (lt_of_block h.box.l) (fun e => by have h1 := h.box.l; rw [e, h.box.g] at h1; simp at h1) (not_own h.own h.box.l (by decide))).trans h.box.l
  · exact (hblk _ (lt_of_block h.box.n) (fun e => by have h1 := h.box.n; rw [e, h.box.g] at h1; simp at h1) (not_own h.own h.box.n (by decide))).trans h.box.n
  · exact (hblk _ (lt_of_block h.box.m) (fun e => by have h1 := h.box.m; rw [e, h.box.g] at h1; simp at h1) (not_own h.own h.box.m (by decide))).trans h.box.m
  · exact (hblk _ (lt_of_block h.box.s) (fun e => by have h1 := h.box.s; rw [e, h.box.g] at h1; simp at h1) (not_own h.own h.box.s (by decide))).trans h.box.s
  · exact (hblk _ (lt_of_block (h.box.who j hj)) (fun e => by have h1 := h.box.who j hj; rw [e, h.box.g] at h1; simp at h1) (not_own h.own (h.box.who j hj) (by decide))).trans (h.box.who j hj)
  · refine row_keep hown (fun k hk => Below.heap_setCell _ _ _ _ (fun e => ?_))
    simp only at e
    rcases hnew k hk with h1 | h1
    · exact hngg (e ▸ h1)
    · omega
  · rcases hnew k hk with h1 | h1
    · exact h.gz k h1
    · exact h.both.net.zero k h1
/-- The mark of the late calls is set to what it was. -/
theorem WS.late (h : WS wB X mv ms ss X2 sv b nw sval ra rd done wr G rv gv) : WS wB X mv ms ss X2 sv b nw sval ra rd done (wr.setCell ⟨b.l, 0, none⟩ (.bool false)) G rv gv ∧ Cbk b gv wr (wr.setCell ⟨b.l, 0, none⟩ (.bool false)) gv := by
  have hblk : ∀ k, k ≠ b.l → (wr.setCell ⟨b.l, 0, none⟩ (.bool false)).heap[k]? = wr.heap[k]? := fun k h1 => Below.heap_setCell _ _ _ _ h1
  have hzs : (wr.setCell ⟨b.l, 0, none⟩ (.bool false)).heap.size = wr.heap.size := by simp [World.setCell]
  have ne : ∀ {k : Nat} {cs : Array Value} {t : TypeId}, wr.heap[k]? = some (.cells cs t (0, 0)) → t ≠ 4 → k ≠ b.l := fun h1 h2 e => by rw [e, h.box.l] at h1; simp only [Option.some.injEq, Obj.cells.injEq] at h1; exact h2 h1.2.1.symm
  refine ⟨⟨h.both.other (fun k => k = b.l) (by omega) rfl rfl rfl (fun k _ hS => hblk k hS) (fun k hS => ?_) (fun k hS => ?_) (fun k hS => ?_), ⟨(hblk _ (ne h.box.g (by decide))).trans h.box.g, ?_, (hblk _ (ne h.box.n (by decide))).trans h.box.n, (hblk _ (ne h.box.m (by decide))).trans h.box.m, (hblk _ (ne h.box.s (by decide))).trans h.box.s, fun j hj => (hblk _ (ne (h.box.who j hj) (by decide))).trans (h.box.who j hj)⟩, h.zero, row_keep h.own (fun k hk => hblk k (fun e => ?_)), h.gz, h.gge, h.lge⟩,
    ⟨rfl, rfl, rfl, by omega, fun k _ _ h2 _ => hblk k h2, fun k hk => .inl hk⟩⟩
  · subst hS; exact h.zero.l
  · subst hS; exact h.lge
  · subst hS; exact ⟨_, _, h.box.l, by decide, by decide⟩
  · rw [block_setCell h.box.l]; rfl
  · exact not_own h.own h.box.l (by decide) (e ▸ hk)
end

end Go.Proofs.Ytlandkindbmbfaa.Wa
/-
  The walk of a watcher: it lists the call and looks at the nets. Conditions: the lists within the form's own reach.
-/
namespace Go.Proofs.Ytlandkindbmbfaa.Wa
open Go.RowKit Plain
attribute [local go_sem ↓] Go.wp_at_zero Go.wp_at_succ

theorem Cbk.up {b : Bx} {gv gv' : Value} {w w1 w2 : World} (h : Cbk b gv w w1 gv') (hb : Below w1.heap.size w1 w2) : Cbk b gv w w2 gv' :=
  ⟨hb.os.trans h.os, hb.tape.trans h.tape, hb.output.trans h.output, Nat.le_trans h.size hb.size, fun k hk h1 h2 h3 => (hb.block k (Nat.lt_of_lt_of_le hk h.size)).trans (h.block k hk h1 h2 h3), h.at'⟩

section
variable [Inhabited WVals]
variable {wB wr : World} {X X2 nw : Nat} {mv sv rv gv : Value} {ms : List Nat} {ss ra : List Shp} {b : Bx} {done : List Cl} {G : Nat → Nat}

set_option maxRecDepth 100000 in
set_option maxHeartbeats 6400000 in
theorem cb_row {sa : Option Addr} {cs : Nat} (hss : ss.length ≤ 4398046510976) (h : WS wB X mv ms ss X2 sv b nw (.slice sa ss.length cs) ra ra done wr G rv gv) (hsh : OwnShps wB (X2 + 1) sv ss) (hok : Okays ss) (hn : ra.length ≤ 4398046510976) (hst : Short ra) {j : Nat} (hj : j < nw) {m : Nat} (hm : m < ss.length) {row : Nat} (hr : ra.length = row + 1) (hd : done.length ≤ 4398046511000) :
    Calls Try.prog 40 #[.int .i64 (m : Int), .int .i64 (row : Int), .pointer (some ⟨b.g, 0, none⟩), .pointer (some ⟨b.who j, 0, none⟩), .pointer (some ⟨b.l, 0, none⟩), .pointer (some ⟨b.n, 0, none⟩), .pointer (some ⟨b.m, 0, none⟩), .pointer (some ⟨b.s, 0, none⟩)] wr
      fun e w' => e = .returned (.tuple #[]) ∧ ∃ gv', WS wB X mv ms ss X2 sv b nw (.slice sa ss.length cs) ra ra (done ++ [⟨(j : Int), (m : Int), (row : Int)⟩]) w' G rv gv' ∧ Cbk b gv wr w' gv' := by
  obtain ⟨i72, ci, c0, c1, c2⟩ := info_parts Try.info72
  obtain ⟨o, ho⟩ : ∃ o, o = Obj.cells #[.int .i64 (j : Int), .int .i64 (m : Int), .int .i64 (row : Int)] 72 := ⟨_, rfl⟩
  have d0 := h.cg
  have d1 := h.cw hj
  have k0 := (h.up (up_alloc wr (.cells #[.int .i64 (j : Int), .int .i64 (m : Int), .int .i64 (row : Int)] 72))).cg
  have kf := (h.up (up_alloc wr (.cells #[.int .i64 (j : Int), .int .i64 (m : Int), .int .i64 (row : Int)] 72))).fg
  have HW := Lib.hid h
  have hBz := h.both.exc.size
  have hgl : b.g < wr.heap.size := lt_of_block h.box.g
  have HNG := Lib.hid (not_own h.own h.box.g (by decide))
  clear h ho
  go_enter Try.func40, Try.ntmps40
  go_wp2_with (at_builtin; refine wpList_append_own_at _ rfl _ _ 69 rfl wB.heap.size 72 i72 (.agg #[.int .i64 0, .int .i64 0, .int .i64 0]) 3 24 Try.underlying69 ci c0 c1 c2 rfl (by decide) gv done.length (flatC done) rfl (World.ownsRow.alloc HW.out.own (.cells #[.int .i64 (j : Int), .int .i64 (m : Int), .int .i64 (row : Int)] 72)) ⟨wr.heap.size, 0, none⟩ 1 1 [.int .i64 (j : Int), .int .i64 (m : Int), .int .i64 (row : Int)] rfl rfl (World.news_of_block (cs := #[.int .i64 (j : Int), .int .i64 (m : Int), .int .i64 (row : Int)]) (t := 72) (fr := (0, 0)) (heap_alloc_new wr _)) (one_call _ _ _) (by unfold maxLen; omega) (by omega) (by simp; omega) ?_; intro v' w2 hown' hgrow _ hat; obtain ⟨g', c', rfl⟩ := Joins.ownsRow_form hown' (by omega); have r0 := hgrow.cell k0 (fun e => HNG.out e.symm); have rf : w2.frozen? ⟨b.g, 0, none⟩ = false := (World.frozen?_of_block (hgrow.block b.g (by simp; omega) (fun e => HNG.out e.symm))).trans kf; have HL := Lib.hid (HW.out.list hgrow (c := ⟨(j : Int), (m : Int), (row : Int)⟩) (by unfold OwnCls; rw [flatC_snoc, List.length_append, List.length_singleton]; exact hown') hat))
  generalize hgv : Value.slice (some ⟨g', 0, none⟩) (done.length + 1) c' = gv2 at HL ⊢
  generalize hw3 : w2.setCell ⟨b.g, 0, none⟩ gv2 = w3 at HL ⊢
  have H3 := Lib.hid HL.out.1
  have HC3 := Lib.hid HL.out.2
  have H3D := Lib.hid (H3.out.up (show Below w3.heap.size w3 w3.drew from ⟨rfl, rfl, rfl, Nat.le_refl _, fun _ _ => rfl⟩))
  have HLEN : Hid (Calls Try.prog 37 #[.pointer (some ⟨X, 0, none⟩)] w3.drew fun e w' => e = .returned (.int .i64 ((row : Int) + 1)) ∧ w3.drew = w') := by
    have h5 := H3D.out.both.len
    rw [hr] at h5
    exact h5
  have HS := Lib.hid (fun (nn : Int) (w' : World) (h' : Both wB X mv ms ss X2 sv ra ra w' G rv) => step_rows h' hsh hok hn hst 0 (.slice none 0 0) nn)
  have x0 := H3.out.cl
  have xf := H3.out.fl
  have x1 := H3.out.cn
  have x2 := H3.out.cm
  have x3 := H3.out.cs
  have hsl : (ss.length : Int) ≠ 0 := by omega
  have hne : ¬ ss = [] := fun e => by rw [e] at hm; simp at hm
  have hrn : (row : Int) < 4398046510976 := by omega
  have hwr : IntKind.i64.wrap ((row : Int) + 1) = (row : Int) + 1 := by rw [IntKind.wrap_i64]; omega
  have hmn : (m : Int) < 4398046510976 := by omega
  have hwm : IntKind.i64.wrap ((m : Int) + 1) = (m : Int) + 1 := by rw [IntKind.wrap_i64]; omega
  clear hgv hw3 HL hat hown' hgrow r0 rf d0 d1 k0 kf HNG hgl hsh hok hst
  go_region_held3 (fun w' => w'.cell? ⟨b.l, 0, none⟩ = some (.bool false) ∧ w'.cell? ⟨b.n, 0, none⟩ = some (.pointer (some ⟨X, 0, none⟩)) ∧ w'.cell? ⟨b.m, 0, none⟩ = some (.pointer (some ⟨X2, 0, none⟩)) ∧ w'.cell? ⟨b.s, 0, none⟩ = some (.slice sa ss.length cs))
    (first | exact ⟨x0, x1, x2, x3⟩ | exact ⟨y0, y1, y2, y3⟩ | exact ⟨z0, z1, z2, z3⟩ | exact ⟨s0, s1, s2, s3⟩)
    (first
      | (go_at_call 37; refine HLEN.out.mono ?_; rintro e w' ⟨rfl, rfl⟩)
      | ((fail_if_success (have hchk := H4)); go_at_call 36; refine (HS.out _ _ (by exact H3D.out.both)).mono ?_; rintro e w4 ⟨rfl, hb4⟩; have H4 := Lib.hid (H3D.out.up hb4); have HC4 := Lib.hid hb4; have y0 := H4.out.cl; have y1 := H4.out.cn; have y2 := H4.out.cm; have y3 := H4.out.cs; clear hb4)
      | (go_at_call 36; refine (HS.out _ _ (by exact H4.out.both)).mono ?_; rintro e w5 ⟨rfl, hb5⟩; have H5 := Lib.hid (H4.out.up hb5); have HC5 := Lib.hid hb5; have z0 := H5.out.cl; have z1 := H5.out.cn; have z2 := H5.out.cm; have z3 := H5.out.cs; have zf := H5.out.fl; have HF := Lib.hid H5.out.late; have s0 := HF.out.1.cl; have s1 := HF.out.1.cn; have s2 := HF.out.1.cm; have s3 := HF.out.1.cs; clear hb5))
  go_wp2
  go_end0
  exact ⟨rfl, gv2, HF.out.1, (HC3.out.up ((show Below w3.heap.size w3 w3.drew from ⟨rfl, rfl, rfl, Nat.le_refl _, fun _ _ => rfl⟩).trans (HC4.out.trans (HC5.out.mono HC4.out.size)))).trans HF.out.2⟩
end

end Go.Proofs.Ytlandkindbmbfaa.Wa
/-
  How many calls a row brings: each watcher is told at most once. No condition beyond those that each lemma states.
-/
namespace Go.Proofs.Ytlandkindbmbfaa
open Go.RowKit Plain

theorem idxFrom_nodup {α : Type} {f : α → Bool} : ∀ (l : List α) (k : Nat), (idxFrom f k l).Nodup
  | [], k => by simp [idxFrom]
  | a :: l, k => by
    rw [idxFrom_cons]
    split
    · rw [List.nodup_cons]
      exact ⟨fun hx => by have := (idxFrom_bounds (f := f) l (k + 1) _ hx).1; omega, idxFrom_nodup l (k + 1)⟩
    · exact idxFrom_nodup l (k + 1)
def sumTo (watch : List Int) (mems : List Int) (j : Nat) : Nat := (mems.map fun x => (whosTo watch x j).length).sum
theorem sumTo_step (watch : List Int) (j : Nat) : ∀ mems : List Int, sumTo watch mems (j + 1) = sumTo watch mems j + mems.count (at' watch j)
  | [] => rfl
  | x :: l => by
    have ih := sumTo_step watch j l
    unfold sumTo at ih ⊢
    simp only [List.map_cons, List.sum_cons, List.count_cons]
    rw [ih]
    by_cases h : at' watch j = x
    · rw [whosTo_yes h, List.length_append, List.length_singleton, h]; simp; omega
    · rw [whosTo_no h]
      have : (x == at' watch j) = false := by simpa using fun e => h e.symm
      rw [this]; simp; omega
theorem sumTo_le (watch : List Int) {mems : List Int} (hd : mems.Nodup) : ∀ j, sumTo watch mems j ≤ j
  | 0 => by
    have : ∀ l : List Int, sumTo watch l 0 = 0 := fun l => by
      induction l with
      | nil => rfl
      | cons x l ih => unfold sumTo at ih ⊢; rw [List.map_cons, List.sum_cons, ih]; rfl
    rw [this]; exact Nat.le_refl _
  | j + 1 => by
    rw [sumTo_step]
    have h1 := sumTo_le watch hd j
    have h2 : mems.count (at' watch j) ≤ 1 := List.nodup_iff_count.1 hd _
    omega
theorem tell_sum (watch : List Int) (row : Int) : ∀ mems : List Int, (tell watch row mems).length = sumTo watch mems watch.length
  | [] => rfl
  | x :: l => by
    have ih := tell_sum watch row l
    have e : tell watch row (x :: l) = tellOne watch row x ++ tell watch row l := by simp [tell]
    rw [e, List.length_append, ih]
    unfold sumTo tellOne whos
    simp
/-- Each watcher is told at most once. -/
theorem tell_once (watch : List Int) (row : Int) {mems : List Int} (hd : mems.Nodup) : (tell watch row mems).length ≤ watch.length := by
  rw [tell_sum]; exact sumTo_le watch hd _
theorem tell_part (watch : List Int) (row : Int) {mems : List Int} (hd : mems.Nodup) {j q : Nat} {x : Int} (hj : mems[j]? = some x) : (tell watch row (mems.take j)).length + ((tellOne watch row x).take q).length ≤ watch.length := by
  have h1 : (tell watch row (mems.take (j + 1))).length ≤ watch.length := tell_once watch row (List.Nodup.sublist (List.take_sublist _ _) hd)
  rw [take_one hj, tell_snoc, List.length_append] at h1
  have h2 : ((tellOne watch row x).take q).length ≤ (tellOne watch row x).length := by rw [List.length_take]; omega
  omega
theorem whosTo_lt {watch : List Int} {x : Int} : ∀ {j i : Nat}, i ∈ whosTo watch x j → i < j := by
  intro j i h
  unfold whosTo at h
  have := List.mem_filter.1 h
  exact List.mem_range.1 this.1

end Go.Proofs.Ytlandkindbmbfaa
