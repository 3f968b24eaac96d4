/-
  A store while a row goes in or out: its parts, and what each step leaves. No condition beyond those that each lemma states.
-/
import Derived.Test.YtmkoejpdoeblkaaK3
namespace Go.Proofs.Ytmkoejpdoeblkaa
open Go.RowKit Pl

structure Mid (G : Nat → Rl) (X : Nat) (A : List Int) (l lr : List Rw) (fs : List Value) (V : SV) (Cn : Rw → Option Nat) (Co : Int → List Int) (Cw : Int × Nat × Int → List Int) (nn no nw : Nat) (w : World) : Prop where
  blk : Blk w X V
  tag : G X = .st
  ars : OwnD w (fun k => G k = .imm) V.av A
  rows : RowsP w G V.rv lr
  undo : UndoP w G X V.uv l fs
  num : NumP w G V.bn nn A Cn
  of : FamP ofF w G V.bo no Co
  whr : FamP whF w G V.bw nw Cw
  out : Out G w
theorem StoreAt.mid {G : Nat → Rl} {X : Nat} {A : List Int} {l : List Rw} {fs : List Value} {V : SV} {w : World} (h : StoreAt G X A l fs V w) :
    Mid G X A l l fs V (idx l) (fun p => pick (ofQ p) l) (fun x => pick (whQ x) l) V.N V.N (8 * V.N) w := ⟨h.blk, h.tag, h.ars, h.rows, h.undo, h.num, h.of, h.whr, h.out⟩
/-- What may turn while a row goes in or out. -/
def Own (r : Rl) : Prop := r ≠ .out ∧ r ≠ .imm ∧ r ≠ .lows
section
variable {ex : Rl → Prop} {G G' G1 : Nat → Rl} {w w' w1 w2 : World} {X j n m : Nat} {A : List Int} {l lr : List Rw} {fs us : List Value} {bs : List Int} {V : SV} {v v' u : Value} {r : Rw} {o : Obj}
  {Cn Cn' : Rw → Option Nat} {Co Co' : Int → List Int} {Cw Cw' : Int × Nat × Int → List Int} {nn no nw : Nat} {f : Value → Option Value}
theorem Mid.tr (h : Mid G X A l lr fs V Cn Co Cw nn no nw w) (t : Tr ex G w G' w') (hx : ∀ r, r ≠ .out → r ≠ .lows → ¬ ex r) (hO : Out G' w') : Mid G' X A l lr fs V Cn Co Cw nn no nw w' := by
  obtain ⟨b1, b2⟩ := t.cells h.blk h.tag (hx _ (by simp) (by simp))
  exact ⟨b1, b2, t.own h.ars (hx _ (by simp) (by simp)), h.rows.tr t (hx _ (by simp) (by simp)) (hx _ (by simp) (by simp)), h.undo.tr t (hx _ (by simp) (by simp)) (hx _ (by simp) (by simp)), h.num.tr t (hx _ (by simp) (by simp)),
    h.of.tr t (hx _ (by simp [ofF]) (by simp [ofF])) (fun i => hx _ (by simp [ofF]) (by simp [ofF])), h.whr.tr t (hx _ (by simp [whF]) (by simp [whF])) (fun i => hx _ (by simp [whF]) (by simp [whF])), hO⟩
theorem Mid.up (h : Mid G X A l lr fs V Cn Co Cw nn no nw w) (hb : Below w.heap.size w w') : Mid G X A l lr fs V Cn Co Cw nn no nw w' := h.tr (Tr.up (ex := fun _ => False) hb) (fun _ _ _ h => h) (h.out.up hb.size)
theorem Blk.cells (h : Blk w X V) : w.cell? ⟨X, 0, none⟩ = some V.av ∧ w.cell? ⟨X, 1, none⟩ = some V.rv ∧ w.cell? ⟨X, 2, none⟩ = some V.uv ∧ w.cell? ⟨X, 3, none⟩ = some (.map (some V.bn)) ∧ w.cell? ⟨X, 4, none⟩ = some (.map (some V.bo)) ∧
    w.cell? ⟨X, 5, none⟩ = some (.map (some V.bw)) ∧ w.cell? ⟨X, 6, none⟩ = some (.int .i64 (V.N : Int)) ∧ w.cell? ⟨X, 7, none⟩ = some V.lv := by
  unfold Blk at h
  refine ⟨?_, ?_, ?_, ?_, ?_, ?_, ?_, ?_⟩ <;> simp only [World.cell?, h] <;> rfl
theorem Blk.froz (h : Blk w X V) : w.frozen? ⟨X, 1, none⟩ = false ∧ w.frozen? ⟨X, 2, none⟩ = false ∧ w.frozen? ⟨X, 6, none⟩ = false ∧ w.frozen? ⟨X, 7, none⟩ = false := by
  unfold Blk at h
  refine ⟨?_, ?_, ?_, ?_⟩ <;> simp only [World.frozen?, h] <;> rfl
theorem Blk.set1 (h : Blk w X V) (v : Value) : Blk (w.setCell ⟨X, 1, none⟩ v) X { V with rv := v } := by
  unfold Blk at h ⊢
  simp [World.setCell, Array.getElem?_modify, h]
theorem Blk.set2 (h : Blk w X V) (v : Value) : Blk (w.setCell ⟨X, 2, none⟩ v) X { V with uv := v } := by
  unfold Blk at h ⊢
  simp [World.setCell, Array.getElem?_modify, h]
theorem Blk.set6 (h : Blk w X V) (n : Nat) : Blk (w.setCell ⟨X, 6, none⟩ (.int .i64 (n : Int))) X { V with N := n } := by
  unfold Blk at h ⊢
  simp [World.setCell, Array.getElem?_modify, h]
theorem Blk.set7 (h : Blk w X V) (v : Value) : Blk (w.setCell ⟨X, 7, none⟩ v) X { V with lv := v } := by
  unfold Blk at h ⊢
  simp [World.setCell, Array.getElem?_modify, h]
/-- A store into the store's own block. -/
theorem Tr.setX (ht : G X = .st) (w : World) (j : Nat) (v : Value) : Tr (fun r => r = .st) G w G (w.setCell ⟨X, j, none⟩ v) :=
  ⟨(Kp.refl _ w).set (fun h => absurd ht h) v, fun _ _ => rfl⟩
theorem Out.set (h : Out G w) (a : Addr) (v : Value) : Out G (w.setCell a v) := fun k hk => h k (by simpa [World.setCell] using hk)
open Classical in
/-- New blocks that are never written again. -/
noncomputable def markI (G : Nat → Rl) (P : Nat → Prop) : Nat → Rl := fun k => if P k then .imm else G k
theorem markI_in {P : Nat → Prop} {k : Nat} (h : P k) : markI G P k = .imm := if_pos h
theorem markI_out {P : Nat → Prop} {k : Nat} (h : ¬ P k) : markI G P k = G k := if_neg h
theorem mark_tr {P : Nat → Prop} (hb : Below w.heap.size w w') (hP : ∀ k, P k → w.heap.size ≤ k ∧ k < w'.heap.size) (hO : Out G w) : Tr ex G w (markI G P) w' ∧ Out (markI G P) w' :=
  ⟨⟨Kp.of hb, fun k hk => markI_out (fun h => by have := (hP k h).1; omega)⟩, fun k hk => by
    rw [markI_out (fun h => by have := (hP k h).2; omega)]; exact hO k (Nat.le_trans hb.size hk)⟩

/-- Births go up. -/
theorem Mid.born (h : Mid G X A l lr fs V Cn Co Cw nn no nw w) (n : Nat) : Mid G X A l lr fs { V with N := n } Cn Co Cw nn no nw (w.setCell ⟨X, 6, none⟩ (.int .i64 (n : Int))) ∧ Tr (fun r => r = .st) G w G (w.setCell ⟨X, 6, none⟩ (.int .i64 (n : Int))) := by
  have t := Tr.setX h.tag w 6 (.int .i64 (n : Int))
  exact ⟨⟨h.blk.set6 n, h.tag, t.own h.ars (by simp), h.rows.tr t (by simp) (by simp), h.undo.tr t (by simp) (by simp), h.num.tr t (by simp), h.of.tr t (by simp [ofF]) (by simp [ofF]), h.whr.tr t (by simp [whF]) (by simp [whF]), h.out.set _ _⟩, t⟩

/-- A row more among the rows. -/
theorem Mid.rowIn (h : Mid G X A l lr fs V Cn Co Cw nn no nw w) (hr : RowsF w G V.rv lr us bs) {b : Int} (hu : OwnD w (fun k => G k = .imm) u r.2)
    (ho : w1.ownsRow 0 63 3 v' (lr.length + 1) (flat3 lr us bs ++ [.int .i64 r.1, u, .int .i64 b])) (hg : (w.alloc o).grownBy w1 V.rv.ownBlock) (hat : v'.ownBlock = V.rv.ownBlock ∨ v'.ownBlock = some (w.alloc o).heap.size) :
    ∃ G1, Mid G1 X A l (lr ++ [r]) fs { V with rv := v' } Cn Co Cw nn no nw (w1.setCell ⟨X, 1, none⟩ v') ∧ Tr (fun r => r = .rows ∨ r = .st) G w G1 (w1.setCell ⟨X, 1, none⟩ v') := by
  obtain ⟨G1, t, hG, hO⟩ := app_tr hr.tagged hg ho hat h.out
  obtain ⟨b1, b2⟩ := t.cells h.blk h.tag (by simp)
  have t2 := Tr.setX b2 w1 1 v'
  have T := (t.wide (ex' := fun r => r = .rows ∨ r = .st) (fun _ => Or.inl)).trans (t2.wide (fun _ => Or.inr))
  obtain ⟨o1, o2⟩ := t2.row ho hG (by simp)
  refine ⟨G1, ⟨Blk.set1 b1 v', b2, T.own h.ars (by simp), ⟨us ++ [u], bs ++ [b], by simp [hr.ul], by simp [hr.bl], ?_, hG, fun j s x hj hx => ?_⟩, h.undo.tr T (by simp) (by simp), h.num.tr T (by simp), h.of.tr T (by simp [ofF]) (by simp [ofF]), h.whr.tr T (by simp [whF]) (by simp [whF]), hO.set _ _⟩, T⟩
  · rw [List.length_append, flat3_snoc _ _ _ _ _ _ hr.ul hr.bl]; exact o1
  · by_cases hjl : j < lr.length
    · rw [List.getElem?_append_left hjl] at hj
      rw [List.getElem?_append_left (by have := hr.ul; omega)] at hx
      exact T.own (hr.ids j s x hj hx) (by simp)
    · have hj' : j = lr.length := by
        have := (List.getElem?_eq_some_iff.1 hj).1; simp at this; omega
      subst hj'
      rw [List.getElem?_append_right (by omega)] at hj
      rw [List.getElem?_append_right (by have := hr.ul; omega)] at hx
      simp at hj
      rw [hr.ul] at hx
      simp at hx
      subst hj hx
      exact T.own hu (by simp)
/-- The map of numbers turns. -/
theorem Mid.numTo (h : Mid G X A l lr fs V Cn Co Cw nn no nw w) {n' : Nat} {f' : Value → Option Value} (hM : MapAt 58 w1 V.bn n' f') (hg : w.grownBy w1 (some V.bn)) (hC : ∀ r, fitsB A r = true → okRow r → f' (keyV r) = (Cn' r).map fun i => .int .i64 (i : Int)) :
    Mid G X A l lr fs V Cn' Co Cw n' no nw w1 ∧ Tr (fun r => r = .num) G w G w1 := by
  have t : Tr (fun r => r = .num) G w G w1 := ⟨(Kp.refl _ w).grown hg (fun k hk hx => by obtain rfl := Option.some.inj hk; exact absurd h.num.1 hx), fun _ _ => rfl⟩
  obtain ⟨b1, b2⟩ := t.cells h.blk h.tag (by simp)
  exact ⟨⟨b1, b2, t.own h.ars (by simp), h.rows.tr t (by simp) (by simp), h.undo.tr t (by simp) (by simp), ⟨h.num.1, f', hM, hC⟩, h.of.tr t (by simp [ofF]) (by simp [ofF]), h.whr.tr t (by simp [whF]) (by simp [whF]), h.out.up hg.size⟩, t⟩
theorem Mid.ofTo (h : Mid G X A l lr fs V Cn Co Cw nn no nw w) {n' : Nat} (hF : FamP ofF w1 G1 V.bo n' Co') (t : Tr (fun r => (∃ p, r = .ofv p) ∨ r = .of) G w G1 w1) (hO : Out G1 w1) :
    Mid G1 X A l lr fs V Cn Co' Cw nn n' nw w1 := by
  obtain ⟨b1, b2⟩ := t.cells h.blk h.tag (by simp)
  exact ⟨b1, b2, t.own h.ars (by simp), h.rows.tr t (by simp) (by simp), h.undo.tr t (by simp) (by simp), h.num.tr t (by simp), hF, h.whr.tr t (by simp [whF]) (by simp [whF]), hO⟩
theorem Mid.whTo (h : Mid G X A l lr fs V Cn Co Cw nn no nw w) {n' : Nat} (hF : FamP whF w1 G1 V.bw n' Cw') (t : Tr (fun r => (∃ p i d, r = .whv p i d) ∨ r = .whr) G w G1 w1) (hO : Out G1 w1) :
    Mid G1 X A l lr fs V Cn Co Cw' nn no n' w1 := by
  obtain ⟨b1, b2⟩ := t.cells h.blk h.tag (by simp)
  exact ⟨b1, b2, t.own h.ars (by simp), h.rows.tr t (by simp) (by simp), h.undo.tr t (by simp) (by simp), h.num.tr t (by simp), h.of.tr t (by simp [ofF]) (by simp [ofF]), hF, hO⟩
/-- A way out more. -/
theorem Mid.undoIn (h : Mid G X A l lr fs V Cn Co Cw nn no nw w) (hl : l.length = fs.length) {c0 c1 c2 c3 : Nat} (hc : CloAt w G X l.length r c0 c1 c2 c3 u)
    (ho : w1.ownsRow 0 1 1 v' (fs.length + 1) (fs ++ [clo c0 c1 c2 c3])) (hg : (w.alloc o).grownBy w1 V.uv.ownBlock) (hat : v'.ownBlock = V.uv.ownBlock ∨ v'.ownBlock = some (w.alloc o).heap.size) :
    ∃ G1, Mid G1 X A (l ++ [r]) lr (fs ++ [clo c0 c1 c2 c3]) { V with uv := v' } Cn Co Cw nn no nw (w1.setCell ⟨X, 2, none⟩ v') ∧ Tr (fun r => r = .undo ∨ r = .st) G w G1 (w1.setCell ⟨X, 2, none⟩ v') := by
  obtain ⟨G1, t, hG, hO⟩ := app_tr h.undo.tagged hg ho hat h.out
  obtain ⟨b1, b2⟩ := t.cells h.blk h.tag (by simp)
  have t2 := Tr.setX b2 w1 2 v'
  have T := (t.wide (ex' := fun r => r = .undo ∨ r = .st) (fun _ => Or.inl)).trans (t2.wide (fun _ => Or.inr))
  obtain ⟨o1, o2⟩ := t2.row ho hG (by simp)
  refine ⟨G1, ⟨Blk.set2 b1 v', b2, T.own h.ars (by simp), h.rows.tr T (by simp) (by simp), ⟨by rw [List.length_append]; exact o1, hG, by simp; omega, fun j s hj => ?_⟩, h.num.tr T (by simp), h.of.tr T (by simp [ofF]) (by simp [ofF]), h.whr.tr T (by simp [whF]) (by simp [whF]), hO.set _ _⟩, T⟩
  by_cases hjl : j < l.length
  · rw [List.getElem?_append_left hjl] at hj
    obtain ⟨d0, d1, d2, d3, x, e, hx⟩ := h.undo.clos j s hj
    exact ⟨d0, d1, d2, d3, x, by rw [List.getElem?_append_left (by omega)]; exact e, hx.tr T (by simp)⟩
  · have hj' : j = l.length := by
      have := (List.getElem?_eq_some_iff.1 hj).1; simp at this; omega
    subst hj'
    rw [List.getElem?_append_right (by omega)] at hj
    simp at hj
    subst hj
    exact ⟨c0, c1, c2, c3, u, by rw [List.getElem?_append_right (by omega)]; simp [hl], hc.tr T (by simp)⟩
/-- One list of a family grows, behind a temporary block. -/
theorem FamF.push {ι : Type} {F : Fam ι} {b n n' : Nat} {C C' : ι → List Int} {f' : Value → Option Value} {i0 : ι} {x : Int} (h : FamF F w G b n C f) (hi : F.good i0) (hO : Out G w)
    (ho : w1.ownsRow 0 3 1 v' ((C i0).length + 1) (lits (C i0) ++ [.int .i64 x])) (hg : (w.alloc o).grownBy w1 ((f (F.key i0)).getD nilS).ownBlock) (hat : v'.ownBlock = ((f (F.key i0)).getD nilS).ownBlock ∨ v'.ownBlock = some (w.alloc o).heap.size)
    (hC0 : C' i0 = C i0 ++ [x]) (hC : ∀ i, i ≠ i0 → C' i = C i) (hM : MapAt F.k w2 b n' f') (hg2 : w1.grownBy w2 (some b)) (hf1 : f' (F.key i0) = some v') (hf2 : ∀ x, okKey F.k x → x ≠ F.key i0 → f' x = f x) :
    ∃ G1, FamP F w2 G1 b n' C' ∧ Tr (fun r => r = F.role i0 ∨ r = F.tag) G w G1 w2 ∧ Out G1 w2 := by
  obtain ⟨G1, t, hG, hO1⟩ := app_tr (h.vals i0 hi).2 hg ho hat hO
  have hv : OwnD w1 (fun k => G1 k = F.role i0) v' (C' i0) := ⟨by rw [hC0, lits_snoc, List.length_append]; exact ho, hG⟩
  obtain ⟨h1, h2⟩ := h.step t hv hM hg2 (by rw [hf1]; rfl) hf2 hC
  exact ⟨G1, h1, h2, hO1.up hg2.size⟩
end
end Go.Proofs.Ytmkoejpdoeblkaa
