/-
  Opening of arguments: a script of operations on meters that came in, as the walk is told of it; and the walk of BoundMeters. No condition.
-/
import Derived.Test.YtfhmcgpohpkjgaaM5
import Derived.Test.YtfhmcgpohpkjgaaO1
import Derived.Deep.Slices
namespace Go.Proofs.Ytfhmcgpohpkjgaa
open Go.RowKit Plain Go.ChangeShapes Go.WideShapes Go.ChangeAt Go.Deep Go.Joins

theorem Try.cells48 : Try.prog.cellsOf 48 = 3 := by kernel_rfl
theorem Try.cells3' : Try.prog.cellsOf 3 = 1 := by kernel_rfl
theorem Try.bytes48 : Try.prog.bytesOf 48 = 24 := by kernel_rfl
instance : Inhabited Opn := ⟨⟨0, 0, 0⟩⟩

set_option maxRecDepth 100000 in
theorem open_op {H : Type} {enc : TypeId × Value → H} {W : World} {fuel : Nat} {cs : List Value} {y : DataW H × List MemPlace}
    (hf : DataW.trod enc Try.prog W 0 (fun _ => true) true fuel 48 cs = some y) : ∃ o : Opn, cs = [.int .i64 o.kind, .int .i64 o.m, .int .u64 (o.n : Int)] ∧ o.n < 18446744073709551616 := by
  obtain ⟨xs, n, _, hx, hl, hlen, hg⟩ := DataW.trod_struct Try.underlying48 hf
  rw [Try.cells48] at hl
  match cs, hl with
  | [e0, e1, e2], _ =>
    match xs, hlen with
    | [y0, y1, y2], _ =>
      have f0 : DataW.trod enc Try.prog W 0 (fun _ => true) true n 3 [e0] = some y0 := by
        have := hg 0 _ rfl
        simpa [Try.cells3'] using this
      have f1 : DataW.trod enc Try.prog W 0 (fun _ => true) true n 3 [e1] = some y1 := by
        have := hg 1 _ rfl
        simpa [Try.cells3'] using this
      have f2 : DataW.trod enc Try.prog W 0 (fun _ => true) true n 22 [e2] = some y2 := by
        have := hg 2 _ rfl
        simpa [Try.cells22] using this
      obtain ⟨a, ha, _, _⟩ := DataW.trod_int Try.underlying3 f0
      obtain ⟨b, hb, _, _⟩ := DataW.trod_int Try.underlying3 f1
      obtain ⟨c, hc, _, hcw⟩ := DataW.trod_int Try.underlying22 f2
      obtain ⟨m, rfl, hm⟩ := nat_u64 hcw
      simp only [List.cons.injEq, and_true] at ha hb hc
      subst ha hb hc
      exact ⟨⟨a, b, m⟩, rfl, hm⟩

def OpsArg (W : World) (v : Value) (l : List Opn) : Prop := OpsAt W W.heap.size v l ∧ (∀ o, o ∈ l → o.n < 18446744073709551616) ∧ l.length ≤ 17592186043904

set_option maxRecDepth 100000 in
theorem open_ops {H : Type} {enc : TypeId × Value → H} {W : World} {base : Nat} {v : Value} {d : DataW H} {p : List MemPlace} (hval : Value.okWide Try.prog W .any base 40 v)
    (h : DataW.Trod enc Try.prog W 0 (fun _ => true) true 40 v d p) (hsz : ∀ n ∈ d.weights Try.prog 40, n ≤ reachBytes) : ∃ l, OpsArg W v l := by
  obtain ⟨a0, len, cap, rfl⟩ := okWide_slice Try.underlying40 hval
  obtain ⟨fuel, hf⟩ := h
  rcases open_slice Try.underlying40 hf with ⟨hcs, _⟩ | ⟨x, n, c, m, k, D, Pl, hcs, _, hl, hm, hmm, hx, hcell⟩
  · simp [Value.cells] at hcs
    obtain ⟨rfl, rfl, rfl⟩ := hcs
    exact ⟨[], ⟨none, 0, rfl, .inl rfl⟩, fun s hs => by simp at hs, by simp⟩
  · simp [Value.cells] at hcs
    obtain ⟨rfl, rfl, rfl⟩ := hcs
    simp only [if_true] at hmm
    subst hmm
    simp only [Prod.mk.injEq] at hx
    have hw : len * 24 ≤ reachBytes := by
      have := hsz ((len + (m - len)) * Try.prog.bytesOf 48) (by rw [hx.1]; simp [DataW.weights, Try.underlying40])
      rw [Try.bytes48] at this
      omega
    have hlr : len ≤ 17592186043904 := by simp only [reachBytes] at hw; omega
    clear hw hsz hx
    by_cases h0 : len = 0
    · subst h0
      exact ⟨[], ⟨some x, m, rfl, .inl rfl⟩, fun s hs => by simp at hs, by simp⟩
    · obtain ⟨b, off, sp⟩ := x
      have first : sp = none ∧ b < W.heap.size := by
        obtain ⟨cs', hc1, hc2⟩ := hcell 0 (by omega)
        rw [Try.cells48] at hc1
        obtain ⟨s, rfl, _⟩ := open_op hc2
        have hc := (World.cells?_some hc1).2.2 0 (by omega)
        have e : ((⟨b, off, sp⟩ : Addr).add (0 * 3)).add 0 = ⟨b, off, sp⟩ := by simp [Addr.add]
        rw [e] at hc
        exact ⟨World.cell?_spot hc, World.block_lt_of_cell? W _ hc⟩
      obtain ⟨rfl, hb⟩ := first
      have addr : ∀ j i, ((⟨b, off, none⟩ : Addr).add (i * 3)).add j = ⟨b, off + i * 3 + j, none⟩ := fun j i => by
        unfold Addr.add; split <;> split <;> simp_all
      have each : ∀ i, i < len → ∃ o : Opn, o.n < 18446744073709551616 ∧ W.cell? ⟨b, off + i * 3, none⟩ = some (.int .i64 o.kind) ∧ W.cell? ⟨b, off + i * 3 + 1, none⟩ = some (.int .i64 o.m) ∧ W.cell? ⟨b, off + i * 3 + 2, none⟩ = some (.int .u64 (o.n : Int)) := by
        intro i hi
        obtain ⟨cs', hc1, hc2⟩ := hcell i (by omega)
        rw [Try.cells48] at hc1
        obtain ⟨s, rfl, h1⟩ := open_op hc2
        have hc := (World.cells?_some hc1).2.2
        have g : ∀ j, j < 3 → W.cell? ⟨b, off + i * 3 + j, none⟩ = [Value.int .i64 s.kind, .int .i64 s.m, .int .u64 (s.n : Int)][j]? := fun j hj => by
          rw [← addr j i]; exact hc j hj
        exact ⟨s, h1, g 0 (by omega), g 1 (by omega), g 2 (by omega)⟩
      obtain ⟨f, hfm⟩ := choose_lt each
      have hlen : ((List.range len).map f).length = len := by simp
      refine ⟨(List.range len).map f, ⟨some ⟨b, off, none⟩, m, by rw [hlen], .inr ⟨b, off, rfl, hb, fun j s hj => ?_⟩⟩, fun s hs => ?_, by rw [hlen]; exact hlr⟩
      · have hjl : j < len := by
          have := (List.getElem?_eq_some_iff.1 hj).1
          omega
        rw [List.getElem?_map, List.getElem?_range hjl] at hj
        simp only [Option.map_some, Option.some.injEq] at hj
        subst hj
        exact (hfm j hjl).2
      · obtain ⟨i, hi, rfl⟩ := List.mem_map.1 hs
        exact (hfm i (List.mem_range.1 hi)).1

theorem meters_row (v : Value) (l : List Opn) {W : World} (h : OpsArg W v l) : Calls Try.prog 12 #[v] W fun e w' => e = .returned (.bool true) ∧ Below W.heap.size W w' := meters_walk v l h

end Go.Proofs.Ytfhmcgpohpkjgaa
