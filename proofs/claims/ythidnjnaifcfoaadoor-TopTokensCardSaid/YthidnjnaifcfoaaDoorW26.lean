/-
  From what a row lists of the program's variables to what the walks ask of them. Condition: the listed variables hold what the program's text lays.
-/
import Derived.Test.YthidnjnaifcfoaaDoorW25
import Derived.Lib.LaidTab
import Derived.Stop.LaidErr
import Derived.Deep.Slices
import Derived.Deep.Strs
import Derived.OpenShut
namespace Go.Proofs.YthidnjnaifcfoaaDoor
open Go.RowKit Go.Shelf Go.Deep Pl

theorem of_list {s : ByteArray} {l : List UInt8} (h : s.data.toList = l) : s = ⟨l.toArray⟩ := of_L h
/-- An array of strings that stands first on the list. -/
theorem strs_of_head {P : Program} {W : World} {name : String} {bs : List (List UInt8)} {rest : List (String × DataW Unit)} {g : Nat} {t e : TypeId} {n : Nat}
    (hg : P.globalNamed name = some g) (hty : (P.globals[g]?).map (·.type) = some t) (ht : P.underlying t = some (.array n e)) (he : P.underlying e = some .string) (hce : P.cellsOf e = 1)
    (h : laidMet P ((name, .agg (bs.map fun b => .lit (.string b))) :: rest) W) : ∀ i (hi : i < bs.length), W.cell? ⟨g, i, none⟩ = some (.string ⟨bs[i].toArray⟩) := by
  obtain ⟨ps, ⟨g', t', cs, fuel, p, q, hg', ht', hvar, hd, _, _⟩, _⟩ := h
  obtain rfl := Option.some.inj (hg.symm.trans hg')
  obtain rfl := Option.some.inj (hty.symm.trans ht')
  intro i hi
  obtain ⟨xs, m, _, hx, _, hn, hel⟩ := DataW.trod_array ht hd
  have hxs : xs.map (·.1) = bs.map fun b => (DataW.lit (.string b) : DataW Unit) := by
    have := congrArg Prod.fst hx
    simp only [DataW.agg.injEq] at this
    exact this.symm
  have hlen : xs.length = bs.length := by simpa using congrArg List.length hxs
  have h1 := hel i (by omega)
  rw [hce, Nat.mul_one, List.getElem?_eq_getElem (by omega)] at h1
  obtain ⟨s, hs, hx1, _⟩ := DataW.trod_string he h1
  have h2 : (xs.map (·.1))[i]? = some (DataW.lit (.string s.data.toList) : DataW Unit) := by
    rw [List.getElem?_map, List.getElem?_eq_getElem (by omega), hx1]; rfl
  rw [hxs, List.getElem?_map, List.getElem?_eq_getElem hi] at h2
  simp only [Option.map_some, Option.some.injEq, DataW.lit.injEq, Lit.string.injEq] at h2
  have h3 : cs.toList[i]? = some (.string s) := by
    have := congrArg (·[0]?) hs
    simpa [List.getElem?_take, List.getElem?_drop] using this
  rw [World.var?_cell hg hvar i, ← Array.getElem?_toList, h3, of_list h2.symm]

theorem cells_three {W : World} {base : Nat} {a : Addr} {cs : List Value} (h : W.cells? base a 3 = some cs) : ∃ x y z, cs = [x, y, z] ∧ W.cell? (a.add 0) = some x ∧ W.cell? (a.add 1) = some y ∧ W.cell? (a.add 2) = some z := by
  unfold World.cells? at h
  split at h
  · have hl := Lib.mapM_length h
    simp at hl
    match cs, hl with
    | [x, y, z], _ =>
      obtain ⟨b0, h0, k0⟩ := Lib.mapM_at h 0 0 rfl
      obtain ⟨b1, h1, k1⟩ := Lib.mapM_at h 1 1 rfl
      obtain ⟨b2, h2, k2⟩ := Lib.mapM_at h 2 2 rfl
      simp at h0 h1 h2
      subst h0 h1 h2
      exact ⟨_, _, _, rfl, k0, k1, k2⟩
  · cases h
theorem signs_of_head {P : Program} {W : World} {name : String} {L3 : List (List UInt8 × Int × Int)} {rest : List (String × DataW Unit)} {g : Nat} {t e ts ti ti2 : TypeId} {f0 f1 f2 : Field}
    (hg : P.globalNamed name = some g) (hty : (P.globals[g]?).map (·.type) = some t) (ht : P.underlying t = some (.slice e)) (he : P.underlying e = some (.struct #[f0, f1, f2])) (hce : P.cellsOf e = 3)
    (t0 : f0.type = ts) (t1 : f1.type = ti) (t2 : f2.type = ti2) (o0 : f0.offset = 0) (o1 : f1.offset = 1) (o2 : f2.offset = 2) (hs : P.underlying ts = some .string) (hi1 : P.underlying ti = some (.int .i64)) (hi2 : P.underlying ti2 = some (.int .i64))
    (c0 : P.cellsOf ts = 1) (c1 : P.cellsOf ti = 1) (c2 : P.cellsOf ti2 = 1) (hne : 0 < L3.length)
    (h : laidMet P ((name, .slice (L3.map fun x => .agg [.lit (.string x.1), .lit (.int .i64 x.2.1), .lit (.int .i64 x.2.2)]) []) :: rest) W) :
    ∃ b off cap, W.cell? ⟨g, 0, none⟩ = some (.slice (some ⟨b, off, none⟩) L3.length cap) ∧ b < W.heap.size ∧ ∀ i (hi : i < L3.length),
      W.cell? ⟨b, off + i * 3, none⟩ = some (.string ⟨L3[i].1.toArray⟩) ∧ W.cell? ⟨b, off + i * 3 + 1, none⟩ = some (.int .i64 L3[i].2.1) ∧ W.cell? ⟨b, off + i * 3 + 2, none⟩ = some (.int .i64 L3[i].2.2) := by
  obtain ⟨ps, ⟨g', t', cs, fuel, p, q, hg', ht', hvar, hd, _, _⟩, _⟩ := h
  obtain rfl := Option.some.inj (hg.symm.trans hg')
  obtain rfl := Option.some.inj (hty.symm.trans ht')
  subst t0 t1 t2
  rcases open_slice ht hd with ⟨_, hx⟩ | ⟨a, len, cap, m, n, D, Pl, hcs, _, hle, _, hm, hx, hel⟩
  · cases hx
  have hx1 := congrArg Prod.fst hx
  simp only [DataW.slice.injEq] at hx1
  obtain ⟨hx1, _⟩ := hx1
  have hlen : L3.length = len := by simpa using congrArg List.length hx1
  subst hlen
  have hmm : L3.length ≤ m := by rw [hm]; split <;> omega
  have each : ∀ i (hi : i < L3.length), W.cell? ((a.add (i * 3)).add 0) = some (.string ⟨L3[i].1.toArray⟩) ∧ W.cell? ((a.add (i * 3)).add 1) = some (.int .i64 L3[i].2.1) ∧ W.cell? ((a.add (i * 3)).add 2) = some (.int .i64 L3[i].2.2) := by
    intro i hi
    obtain ⟨cs', h1, h2⟩ := hel i (by omega)
    rw [hce] at h1
    obtain ⟨x, y, z, rfl, k0, k1, k2⟩ := cells_three h1
    obtain ⟨y0, y1, y2, n', hxx, _, g0, g1, g2⟩ := trod_struct3 he h2
    rw [o0, c0] at g0
    rw [o1, c1] at g1
    rw [o2, c2] at g2
    obtain ⟨s, e1, e2, _⟩ := DataW.trod_string hs g0
    obtain ⟨v1, e3, e4, _⟩ := DataW.trod_int hi1 g1
    obtain ⟨v2, e5, e6, _⟩ := DataW.trod_int hi2 g2
    have hD := congrArg Prod.fst hxx
    simp only at hD
    have hLi : (L3.map fun x => (DataW.agg [.lit (.string x.1), .lit (.int .i64 x.2.1), .lit (.int .i64 x.2.2)] : DataW Unit))[i]? = some (D i) := by
      rw [hx1, List.getElem?_map, List.getElem?_range hi]; rfl
    rw [List.getElem?_map, List.getElem?_eq_getElem hi] at hLi
    simp only [Option.map_some, Option.some.injEq] at hLi
    rw [hD, e2, e4, e6] at hLi
    simp only [DataW.agg.injEq, List.cons.injEq, DataW.lit.injEq, Lit.string.injEq, Lit.int.injEq, and_true, true_and] at hLi
    simp at e1 e3 e5
    refine ⟨?_, ?_, ?_⟩
    · rw [k0, e1, of_list hLi.1.symm]
    · rw [k1, e3, hLi.2.1]
    · rw [k2, e5, hLi.2.2]
  have h0 := (each 0 hne).1
  obtain ⟨b, off, spot⟩ := a
  have hspot : spot = none := by simpa [Addr.add] using World.cell?_spot h0
  subst hspot
  have hc : W.cell? ⟨g, 0, none⟩ = some (.slice (some ⟨b, off, none⟩) L3.length cap) := by
    rw [World.var?_cell hg hvar 0, ← Array.getElem?_toList, hcs]; rfl
  refine ⟨b, off, cap, hc, ?_, fun i hi => ?_⟩
  · simp only [Go.WideShapes.add_plain] at h0
    exact World.block_lt_of_cell? _ _ h0
  · obtain ⟨k0, k1, k2⟩ := each i hi
    simp only [Go.WideShapes.add_plain] at k0 k1 k2
    exact ⟨k0, k1, k2⟩
end Go.Proofs.YthidnjnaifcfoaaDoor
