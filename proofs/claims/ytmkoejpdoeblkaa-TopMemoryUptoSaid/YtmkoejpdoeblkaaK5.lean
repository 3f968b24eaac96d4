/-
  Steps of a region that draws its order: append, the maps' operations; what stands while blocks stand. No condition beyond those that each lemma states.
-/
import Derived.Test.YtmkoejpdoeblkaaK4
namespace Go.Proofs.Ytmkoejpdoeblkaa
open Go.RowKit Pl

/-- append at a step of a region that draws, and where the new slice lies. -/
theorem step_append_at {P : Program} (w : World) {ops : Array Oper} {o : Oper} {a : Act} {K : Act → World → Prop} {Q : Exit → Act → World → Prop} {E : Prop} (hgd : o.guard = none) (s x : Operand) (t : TypeId)
    (ho : o.op = .call { callee := .builtin .append, args := #[s, x], argTypes := #[t, t] })
    (base : Nat) (e : TypeId) (i : TypeInfo) (z : Value) (size bytes : Nat) (ht : P.underlying t = some (.slice e)) (hi : P.info? e = some i) (hz : i.zero = some z)
    (hsize : i.size = size) (hby : i.bytes = bytes) (hzs : z.cells.size = size) (hsz : 0 < size)
    (v : Value) (n : Nat) (xs : List Value) (hs : a.eval s = v) (hown : w.ownsRow base e size v n xs)
    (ad : Addr) (m c : Nat) (news : List Value) (hx : a.eval x = .slice (some ad) m c) (hl : news.length = m * size) (hnews : ∀ j u, news[j]? = some u → w.cell? (ad.add j) = some u) (h1 : ∀ u ∈ news, u.oneCell' = true)
    (h63 : n + m ≤ maxLen) (hbytes : (n + m) * bytes ≤ 140737488355328) (hbase : base ≤ w.heap.size)
    (h : ∀ v' w', w'.ownsRow base e size v' (n + m) (xs ++ news) → w.grownBy w' v.ownBlock → (v' = .slice none 0 0 ↔ v = .slice none 0 0 ∧ m = 0) → (v'.ownBlock = v.ownBlock ∨ v'.ownBlock = some w.heap.size) → K (a.put o.dst v') w') :
    if Region.wanted o (yielded ops a.tmps) = true then Oper.wp P o a w K Q else E := by
  have hw : Region.wanted o (yielded ops a.tmps) = true := by simp [Region.wanted, hgd]
  rw [if_pos hw]
  obtain ⟨v', w', hr, h2, h3, h4, h5⟩ := run_append_own_at (P := P) w base t o.type e i z size bytes ht hi hz hsize hby hzs hsz v n xs hown ad m c news hl hnews h1 h63 hbytes hbase
  unfold Oper.wp execOp
  simp only [ho, resolve, invoke, builtin, Sem.run_bind, Sem.run_pure, Result.andThen_ok, List.map_toArray, List.map_cons, List.map_nil, hs, hx, hr]
  exact h v' w' h2 h3 h4 h5

section
variable {P : Program} {w w' : World} {ops : Array Oper} {o : Oper} {a : Act} {K : Act → World → Prop} {Q : Exit → Act → World → Prop} {E : Prop}
theorem step_mapUpdate (hgd : o.guard = none) (m x v : Operand) (t : TypeId) (ho : o.op = .mapUpdate t m x v) (mv kv vv : Value) (hm : a.eval m = mv) (hx : a.eval x = kv) (hv : a.eval v = vv)
    (hrun : (Instr.mapUpdate t mv kv vv).run P w = .ok () w') (h : K (a.put o.dst undef) w') : if Region.wanted o (yielded ops a.tmps) = true then Oper.wp P o a w K Q else E := by
  have hw : Region.wanted o (yielded ops a.tmps) = true := by simp [Region.wanted, hgd]
  rw [if_pos hw]
  unfold Oper.wp
  simp [execOp, ho, hm, hx, hv, hrun, Result.andThen]
  exact h
theorem step_mapEntry (hgd : o.guard = none) (m x : Operand) (t : TypeId) (ho : o.op = .mapEntry t m x) (mv kv vv : Value) (hm : a.eval m = mv) (hx : a.eval x = kv)
    (hrun : (Instr.mapEntry t mv kv).run P w = .ok vv w') (h : K (a.put o.dst vv) w') : if Region.wanted o (yielded ops a.tmps) = true then Oper.wp P o a w K Q else E := by
  have hw : Region.wanted o (yielded ops a.tmps) = true := by simp [Region.wanted, hgd]
  rw [if_pos hw]
  unfold Oper.wp
  simp [execOp, ho, hm, hx, hrun, Result.andThen]
  exact h
theorem step_entryStore (hgd : o.guard = none) (m x v : Operand) (t : TypeId) (ho : o.op = .entryStore t m x v) (mv kv vv : Value) (hm : a.eval m = mv) (hx : a.eval x = kv) (hv : a.eval v = vv)
    (hrun : (Instr.entryStore t mv kv vv).run P w = .ok () w') (h : K (a.put o.dst undef) w') : if Region.wanted o (yielded ops a.tmps) = true then Oper.wp P o a w K Q else E := by
  have hw : Region.wanted o (yielded ops a.tmps) = true := by simp [Region.wanted, hgd]
  rw [if_pos hw]
  unfold Oper.wp
  simp [execOp, ho, hm, hx, hv, hrun, Result.andThen]
  exact h
end
/-- The blocks bs are as they were in w. -/
def BlkS (w : World) (bs : List Nat) (x : World) : Prop := ∀ b ∈ bs, x.heap[b]? = w.heap[b]?
theorem BlkS.lt {w x : World} {bs : List Nat} (h : BlkS w bs x) (hb : ∀ b ∈ bs, b < w.heap.size) : ∀ b ∈ bs, b < x.heap.size := fun b hm => by
  have e := h b hm
  rw [Array.getElem?_eq_getElem (hb b hm)] at e
  exact (Array.getElem?_eq_some_iff.1 e).1
theorem BlkS.refl (w : World) (bs : List Nat) : BlkS w bs w := fun _ _ => rfl
theorem BlkS.alloc {w x : World} {bs : List Nat} (h : BlkS w bs x) (hb : ∀ b ∈ bs, b < w.heap.size) (o : Obj) : BlkS w bs (x.alloc o) := fun b hm => (Below.heap_alloc _ _ _ (h.lt hb b hm)).trans (h b hm)
theorem BlkS.grown {w x y : World} {bs : List Nat} {row : Option Nat} (h : BlkS w bs x) (hb : ∀ b ∈ bs, b < w.heap.size) (hg : x.grownBy y row) (hr : ∀ b ∈ bs, some b ≠ row) : BlkS w bs y := fun b hm => (hg.block b (h.lt hb b hm) (hr b hm)).trans (h b hm)
theorem BlkS.below {w x y : World} {bs : List Nat} (h : BlkS w bs x) (hb : ∀ b ∈ bs, b < w.heap.size) (hg : Below x.heap.size x y) : BlkS w bs y := fun b hm => (hg.block b (h.lt hb b hm)).trans (h b hm)
theorem BlkS.cell {w x : World} {bs : List Nat} (h : BlkS w bs x) {p : Addr} {v : Value} (hm : p.block ∈ bs) (hv : w.cell? p = some v) : x.cell? p = some v := (World.cell?_of_block (h _ hm)).trans hv
theorem drew_below (w : World) (B : Nat) : Below B w w.drew := ⟨rfl, rfl, rfl, Nat.le_refl _, fun _ _ => rfl⟩
theorem alloc_drew (w : World) (o : Obj) : w.drew.alloc o = (w.alloc o).drew := rfl
end Go.Proofs.Ytmkoejpdoeblkaa
