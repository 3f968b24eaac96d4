/-
  Opening of the arguments of AlphaNets: shapes with room, calls; its walk. No condition.
-/
import Derived.Test.YtlandkindbmbfaaO1
import Derived.Test.YtlandkindbmbfaaL8
namespace Go.Proofs.Ytlandkindbmbfaa
open Go.RowKit Plain Go.ChangeShapes Go.WideShapes Go.ChangeAt Go.Deep Go.Joins

set_option maxRecDepth 100000 in
theorem open_shapes2 {H : Type} {enc : TypeId × Value → H} {W : World} {base : Nat} {v : Value} {d : DataW H} {p : List MemPlace} (hval : Value.okWide Try.prog W .any base 22 v)
    (h : DataW.Trod enc Try.prog W 0 (fun _ => true) true 22 v d p) (hsz : ∀ n ∈ d.weights Try.prog 22, n ≤ reachBytes) : ∃ ss, NetsArg W v ss := by
  obtain ⟨a0, len, cap, rfl⟩ := okWide_slice Try.underlying22 hval
  obtain ⟨fuel, hf⟩ := h
  rcases open_slice Try.underlying22 hf with ⟨hcs, _⟩ | ⟨x, n, c, m, k, D, Pl, hcs, _, hl, hm, hmm, hx, hcell⟩
  · simp [Value.cells] at hcs
    obtain ⟨rfl, rfl, rfl⟩ := hcs
    exact ⟨[], ⟨none, 0, rfl, .inl rfl⟩, fun s hs => by simp at hs, by simp, fun a n c e => by simp only [Value.slice.injEq] at e; omega⟩
  · simp [Value.cells] at hcs
    obtain ⟨rfl, rfl, rfl⟩ := hcs
    simp only [if_true] at hmm
    subst hmm
    simp only [Prod.mk.injEq] at hx
    have hw : len * 32 ≤ reachBytes := by
      have := hsz ((len + (m - len)) * Try.prog.bytesOf 27) (by rw [hx.1]; simp [DataW.weights, Try.underlying22])
      rw [Try.bytes27] at this
      omega
    have hlr : len ≤ 4398046510976 := by simp only [reachBytes] at hw; omega
    have hD : ∀ i, i < len → ∀ n ∈ (D i).weights Try.prog 27, n ≤ reachBytes := fun i hi n hn => hsz n (by
      rw [hx.1]; unfold DataW.weights; rw [Try.underlying22]
      exact List.mem_cons_of_mem _ (List.mem_append.2 (.inl (mem_weightsAll (List.mem_map.2 ⟨i, List.mem_range.2 hi, rfl⟩) n hn))))
    clear hw hsz hx
    by_cases h0 : len = 0
    · subst h0
      exact ⟨[], ⟨some x, m, rfl, .inl rfl⟩, fun s hs => by simp at hs, by simp, fun a n c e => by simp only [Value.slice.injEq] at e; omega⟩
    · obtain ⟨b, off, sp⟩ := x
      have first : sp = none ∧ b < W.heap.size := by
        obtain ⟨cs', hc1, hc2⟩ := hcell 0 (by omega)
        rw [Try.cells27] at hc1
        obtain ⟨s, u, rfl, _⟩ := open_shape hc2 (hD 0 (by omega))
        have hc := (World.cells?_some hc1).2.2 0 (by omega)
        have e : ((⟨b, off, sp⟩ : Addr).add (0 * 2)).add 0 = ⟨b, off, sp⟩ := by simp [Addr.add]
        rw [e] at hc
        exact ⟨World.cell?_spot hc, World.block_lt_of_cell? W _ hc⟩
      obtain ⟨rfl, hb⟩ := first
      have each : ∀ i, i < len → ∃ s : Shp, (Okay s ∧ s.cells.length ≤ 17592186044400) ∧ ∃ u, W.cell? ⟨b, off + i * 2, none⟩ = some (.int .i64 s.pred) ∧ W.cell? ⟨b, off + i * 2 + 1, none⟩ = some u ∧ IntsAt W W.heap.size u s.cells ∧ Nilly u := by
        intro i hi
        obtain ⟨cs', hc1, hc2⟩ := hcell i (by omega)
        rw [Try.cells27] at hc1
        obtain ⟨s, u, rfl, h1, h2, h3, h4⟩ := open_shape hc2 (hD i hi)
        have hc := (World.cells?_some hc1).2.2
        have g : ∀ j, j < 2 → W.cell? ⟨b, off + i * 2 + j, none⟩ = [Value.int .i64 s.pred, u][j]? := fun j hj => by
          have := hc j hj
          rw [addr_add, addr_add] at this; exact this
        exact ⟨s, ⟨h3, h4⟩, u, g 0 (by omega), g 1 (by omega), h1, h2⟩
      obtain ⟨f, hfm⟩ := choose_lt each
      have hlen : ((List.range len).map f).length = len := by simp
      refine ⟨(List.range len).map f, ⟨some ⟨b, off, none⟩, m, by rw [hlen], .inr ⟨b, off, rfl, hb, fun j s hj => ?_⟩⟩, fun s hs => ?_, by rw [hlen]; exact hlr, fun a n c e => by simp only [Value.slice.injEq] at e; omega⟩
      · have hjl : j < len := by
          have := (List.getElem?_eq_some_iff.1 hj).1
          omega
        rw [List.getElem?_map, List.getElem?_range hjl] at hj
        simp only [Option.map_some, Option.some.injEq] at hj
        subst hj
        exact (hfm j hjl).2
      · obtain ⟨i, hi, rfl⟩ := List.mem_map.1 hs
        exact (hfm i (List.mem_range.1 hi)).1

theorem Try.cells66 : Try.prog.cellsOf 66 = 4 := by kernel_rfl
theorem Try.bytes66 : Try.prog.bytesOf 66 = 48 := by kernel_rfl

set_option maxRecDepth 100000 in
theorem open_op {H : Type} {enc : TypeId × Value → H} {W : World} {fuel : Nat} {cs : List Value} {y : DataW H × List MemPlace}
    (hf : DataW.trod enc Try.prog W 0 (fun _ => true) true fuel 66 cs = some y) (hsz : ∀ n ∈ y.1.weights Try.prog 66, n ≤ reachBytes) :
    ∃ (s : OpD) (u : Value), cs = [.int .i64 s.kind, .int .i64 s.pred, u, .int .i64 s.nn] ∧ IntsAt W W.heap.size u s.row ∧ Nilly u ∧ s.row.length ≤ 17592186044400 := by
  obtain ⟨xs, n, _, hx, hl, hlen, hg⟩ := DataW.trod_struct Try.underlying66 hf
  rw [Try.cells66] at hl
  match cs, hl with
  | [e0, e1, e2, e3], _ =>
    match xs, hlen with
    | [y0, y1, y2, y3], _ =>
      have f0 : DataW.trod enc Try.prog W 0 (fun _ => true) true n 3 [e0] = some y0 := by
        have := hg 0 _ rfl
        simpa [Try.cells3] using this
      have f1 : DataW.trod enc Try.prog W 0 (fun _ => true) true n 3 [e1] = some y1 := by
        have := hg 1 _ rfl
        simpa [Try.cells3] using this
      have f2 : DataW.trod enc Try.prog W 0 (fun _ => true) true n 25 [e2] = some y2 := by
        have := hg 2 _ rfl
        simpa [Try.cells3, Try.cells25] using this
      have f3 : DataW.trod enc Try.prog W 0 (fun _ => true) true n 3 [e3] = some y3 := by
        have := hg 3 _ rfl
        simpa [Try.cells3, Try.cells25] using this
      obtain ⟨k, hk, _, _⟩ := DataW.trod_int Try.underlying3 f0
      obtain ⟨p, hp, _, _⟩ := DataW.trod_int Try.underlying3 f1
      obtain ⟨q, hq, _, _⟩ := DataW.trod_int Try.underlying3 f3
      obtain ⟨u, l, hu, h1, h2, h3, h4⟩ := open_intlist f2 (fun n hn => hsz n (by rw [hx]; simp [DataW.weights, DataW.weightsEach, Try.underlying66, hn]))
      simp only [List.cons.injEq, and_true] at hk hp hq hu
      subst hk hp hq hu
      exact ⟨⟨k, p, l, q⟩, e2, rfl, h1, h2, by simp only; omega⟩

instance : Inhabited OpD := ⟨⟨0, 0, [], 0⟩⟩

set_option maxRecDepth 100000 in
theorem open_ops {H : Type} {enc : TypeId × Value → H} {W : World} {base : Nat} {v : Value} {d : DataW H} {p : List MemPlace} (hval : Value.okWide Try.prog W .any base 56 v)
    (h : DataW.Trod enc Try.prog W 0 (fun _ => true) true 56 v d p) (hsz : ∀ n ∈ d.weights Try.prog 56, n ≤ reachBytes) : ∃ ss, OpsArg W v ss := by
  obtain ⟨a0, len, cap, rfl⟩ := okWide_slice Try.underlying56 hval
  obtain ⟨fuel, hf⟩ := h
  rcases open_slice Try.underlying56 hf with ⟨hcs, _⟩ | ⟨x, n, c, m, k, D, Pl, hcs, _, hl, hm, hmm, hx, hcell⟩
  · simp [Value.cells] at hcs
    obtain ⟨rfl, rfl, rfl⟩ := hcs
    exact ⟨[], ⟨none, 0, rfl, .inl rfl⟩, fun s hs => by simp at hs, by simp⟩
  · simp [Value.cells] at hcs
    obtain ⟨rfl, rfl, rfl⟩ := hcs
    simp only [if_true] at hmm
    subst hmm
    simp only [Prod.mk.injEq] at hx
    have hw : len * 48 ≤ reachBytes := by
      have := hsz ((len + (m - len)) * Try.prog.bytesOf 66) (by rw [hx.1]; simp [DataW.weights, Try.underlying56])
      rw [Try.bytes66] at this
      omega
    have hlr : len ≤ 4398046510975 := by simp only [reachBytes] at hw; omega
    have hD : ∀ i, i < len → ∀ n ∈ (D i).weights Try.prog 66, n ≤ reachBytes := fun i hi n hn => hsz n (by
      rw [hx.1]; unfold DataW.weights; rw [Try.underlying56]
      exact List.mem_cons_of_mem _ (List.mem_append.2 (.inl (mem_weightsAll (List.mem_map.2 ⟨i, List.mem_range.2 hi, rfl⟩) n hn))))
    clear hw hsz hx
    by_cases h0 : len = 0
    · subst h0
      exact ⟨[], ⟨some x, m, rfl, .inl rfl⟩, fun s hs => by simp at hs, by simp⟩
    · obtain ⟨b, off, sp⟩ := x
      have first : sp = none ∧ b < W.heap.size := by
        obtain ⟨cs', hc1, hc2⟩ := hcell 0 (by omega)
        rw [Try.cells66] at hc1
        obtain ⟨s, u, rfl, _⟩ := open_op hc2 (hD 0 (by omega))
        have hc := (World.cells?_some hc1).2.2 0 (by omega)
        have e : ((⟨b, off, sp⟩ : Addr).add (0 * 4)).add 0 = ⟨b, off, sp⟩ := by simp [Addr.add]
        rw [e] at hc
        exact ⟨World.cell?_spot hc, World.block_lt_of_cell? W _ hc⟩
      obtain ⟨rfl, hb⟩ := first
      have each : ∀ i, i < len → ∃ s : OpD, s.row.length ≤ 17592186044400 ∧ ∃ u, W.cell? ⟨b, off + i * 4, none⟩ = some (.int .i64 s.kind) ∧ W.cell? ⟨b, off + i * 4 + 1, none⟩ = some (.int .i64 s.pred) ∧ W.cell? ⟨b, off + i * 4 + 2, none⟩ = some u ∧ W.cell? ⟨b, off + i * 4 + 3, none⟩ = some (.int .i64 s.nn) ∧ IntsAt W W.heap.size u s.row ∧ Nilly u := by
        intro i hi
        obtain ⟨cs', hc1, hc2⟩ := hcell i (by omega)
        rw [Try.cells66] at hc1
        obtain ⟨s, u, rfl, h1, h2, h3⟩ := open_op hc2 (hD i hi)
        have hc := (World.cells?_some hc1).2.2
        have g : ∀ j, j < 4 → W.cell? ⟨b, off + i * 4 + j, none⟩ = [Value.int .i64 s.kind, .int .i64 s.pred, u, .int .i64 s.nn][j]? := fun j hj => by
          have := hc j hj
          rw [addr_add, addr_add] at this; exact this
        exact ⟨s, h3, u, g 0 (by omega), g 1 (by omega), g 2 (by omega), g 3 (by omega), h1, h2⟩
      obtain ⟨f, hfm⟩ := choose_lt each
      have hlen : ((List.range len).map f).length = len := by simp
      refine ⟨(List.range len).map f, ⟨some ⟨b, off, none⟩, m, by rw [hlen], .inr ⟨b, off, rfl, hb, fun j s hj => ?_⟩⟩, fun s hs => ?_, by rw [hlen]; exact hlr⟩
      · have hjl : j < len := by
          have := (List.getElem?_eq_some_iff.1 hj).1
          omega
        rw [List.getElem?_map, List.getElem?_range hjl] at hj
        simp only [Option.map_some, Option.some.injEq] at hj
        subst hj
        exact (hfm j hjl).2
      · obtain ⟨i, hi, rfl⟩ := List.mem_map.1 hs
        exact (hfm i (List.mem_range.1 hi)).1

theorem nets_at (v : Value) (ss : List Shp) {w : World} (hv : NetsArg w v ss) (u : Value) (ops : List OpD) (hu : OpsArg w u ops) :
    Calls Try.prog 9 #[v, u] w fun e w' => e = .returned (.bool true) ∧ Below w.heap.size w w' := nets_row v ss hv u ops hu

end Go.Proofs.Ytlandkindbmbfaa
