/-
  Opening of arguments: slots, patterns, turns, rows that came in, as the walks are told of them. No condition.
-/
import Derived.Test.YtlandkindbmbfaaK5
namespace Go.Proofs.Ytlandkindbmbfaa
open Go.RowKit Plain Go.ChangeShapes Go.WideShapes Go.ChangeAt Go.Deep Go.Joins

theorem Try.cells4 : Try.prog.cellsOf 4 = 1 := by kernel_rfl
theorem Try.cells37 : Try.prog.cellsOf 37 = 1 := by kernel_rfl
theorem Try.cells53 : Try.prog.cellsOf 53 = 2 := by kernel_rfl
theorem Try.bytes53 : Try.prog.bytesOf 53 = 16 := by kernel_rfl
theorem Try.cells39 : Try.prog.cellsOf 39 = 2 := by kernel_rfl
theorem Try.bytes39 : Try.prog.bytesOf 39 = 32 := by kernel_rfl
theorem Try.cells41 : Try.prog.cellsOf 41 = 3 := by kernel_rfl

set_option maxRecDepth 100000 in
theorem open_slot {H : Type} {enc : TypeId × Value → H} {W : World} {fuel : Nat} {cs : List Value} {y : DataW H × List MemPlace}
    (hf : DataW.trod enc Try.prog W 0 (fun _ => true) true fuel 53 cs = some y) : ∃ a : Slt, cs = [.bool a.1, .int .i64 a.2] ∧ Bnd a.2 := by
  obtain ⟨xs, n, _, hx, hl, hlen, hg⟩ := DataW.trod_struct Try.underlying53 hf
  rw [Try.cells53] at hl
  match cs, hl with
  | [e0, e1], _ =>
    match xs, hlen with
    | [y0, y1], _ =>
      have f0 : DataW.trod enc Try.prog W 0 (fun _ => true) true n 4 [e0] = some y0 := by
        have := hg 0 _ rfl
        simpa [Try.cells4] using this
      have f1 : DataW.trod enc Try.prog W 0 (fun _ => true) true n 3 [e1] = some y1 := by
        have := hg 1 _ rfl
        simpa [Try.cells3] using this
      obtain ⟨b, hb, _⟩ := DataW.trod_bool Try.underlying4 f0
      obtain ⟨p, hp, _, hpw⟩ := DataW.trod_int Try.underlying3 f1
      simp only [List.cons.injEq, and_true] at hb hp
      subst hb hp
      exact ⟨(b, p), rfl, i64_bounds hpw⟩

set_option maxRecDepth 100000 in
theorem open_slots {H : Type} {enc : TypeId × Value → H} {W : World} {fuel : Nat} {cs : List Value} {y : DataW H × List MemPlace}
    (hf : DataW.trod enc Try.prog W 0 (fun _ => true) true fuel 37 cs = some y) (hsz : ∀ n ∈ y.1.weights Try.prog 37, n ≤ reachBytes) :
    ∃ u l, cs = [u] ∧ SlotsAt W W.heap.size u l ∧ I64l l ∧ l.length ≤ 8796093021952 := by
  rcases open_slice Try.underlying37 hf with ⟨hcs, _⟩ | ⟨x, len, cap, m, k, D, Pl, hcs, _, hl, hm, hmm, hx, hcell⟩
  · exact ⟨_, [], hcs, ⟨none, 0, rfl, .inl rfl⟩, fun a ha => by simp at ha, by simp⟩
  · simp only [if_true] at hmm
    subst hmm
    have hw : len * 16 ≤ reachBytes := by
      have := hsz ((len + (m - len)) * Try.prog.bytesOf 53) (by rw [hx]; simp [DataW.weights, Try.underlying37])
      rw [Try.bytes53] at this
      omega
    have hlr : len ≤ 8796093021952 := by simp only [reachBytes] at hw; omega
    clear hw hsz hx
    by_cases h0 : len = 0
    · subst h0
      exact ⟨_, [], hcs, ⟨some x, m, rfl, .inl rfl⟩, fun a ha => by simp at ha, by simp⟩
    · obtain ⟨b, off, sp⟩ := x
      have first : sp = none ∧ b < W.heap.size := by
        obtain ⟨cs', hc1, hc2⟩ := hcell 0 (by omega)
        rw [Try.cells53] at hc1
        obtain ⟨s, rfl, _⟩ := open_slot hc2
        have hc := (World.cells?_some hc1).2.2 0 (by omega)
        have e : ((⟨b, off, sp⟩ : Addr).add (0 * 2)).add 0 = ⟨b, off, sp⟩ := by simp [Addr.add]
        rw [e] at hc
        exact ⟨World.cell?_spot hc, World.block_lt_of_cell? W _ hc⟩
      obtain ⟨rfl, hb⟩ := first
      have each : ∀ i, i < len → ∃ a : Slt, Bnd a.2 ∧ W.cell? ⟨b, off + i * 2, none⟩ = some (.bool a.1) ∧ W.cell? ⟨b, off + i * 2 + 1, none⟩ = some (.int .i64 a.2) := by
        intro i hi
        obtain ⟨cs', hc1, hc2⟩ := hcell i (by omega)
        rw [Try.cells53] at hc1
        obtain ⟨s, rfl, h1⟩ := open_slot hc2
        have hc := (World.cells?_some hc1).2.2
        have g : ∀ j, j < 2 → W.cell? ⟨b, off + i * 2 + j, none⟩ = [Value.bool s.1, .int .i64 s.2][j]? := fun j hj => by
          have := hc j hj
          rw [addr_add, addr_add] at this; exact this
        exact ⟨s, h1, g 0 (by omega), g 1 (by omega)⟩
      obtain ⟨f, hfm⟩ := choose_lt each
      have hlen : ((List.range len).map f).length = len := by simp
      refine ⟨_, (List.range len).map f, hcs, ⟨some ⟨b, off, none⟩, m, by rw [hlen], .inr ⟨b, off, rfl, hb, fun j c n hj => ?_⟩⟩, fun a ha => ?_, by rw [hlen]; exact hlr⟩
      · have hjl : j < len := by
          have := (List.getElem?_eq_some_iff.1 hj).1
          omega
        rw [List.getElem?_map, List.getElem?_range hjl] at hj
        simp only [Option.map_some, Option.some.injEq] at hj
        have := (hfm j hjl).2
        rw [hj] at this
        exact this
      · obtain ⟨i, hi, rfl⟩ := List.mem_map.1 ha
        exact (hfm i (List.mem_range.1 hi)).1

set_option maxRecDepth 100000 in
theorem open_pat {H : Type} {enc : TypeId × Value → H} {W : World} {fuel : Nat} {cs : List Value} {y : DataW H × List MemPlace}
    (hf : DataW.trod enc Try.prog W 0 (fun _ => true) true fuel 39 cs = some y) (hsz : ∀ n ∈ y.1.weights Try.prog 39, n ≤ reachBytes) :
    ∃ (x : Int × List Slt) (u : Value), cs = [.int .i64 x.1, u] ∧ SlotsAt W W.heap.size u x.2 ∧ I64l x.2 ∧ x.2.length ≤ 8796093021952 ∧ Bnd x.1 := by
  obtain ⟨xs, n, _, hx, hl, hlen, hg⟩ := DataW.trod_struct Try.underlying39 hf
  rw [Try.cells39] at hl
  match cs, hl with
  | [e0, e1], _ =>
    match xs, hlen with
    | [y0, y1], _ =>
      have f0 : DataW.trod enc Try.prog W 0 (fun _ => true) true n 3 [e0] = some y0 := by
        have := hg 0 _ rfl
        simpa [Try.cells3] using this
      have f1 : DataW.trod enc Try.prog W 0 (fun _ => true) true n 37 [e1] = some y1 := by
        have := hg 1 _ rfl
        simpa [Try.cells37] using this
      obtain ⟨p, hp, _, hpw⟩ := DataW.trod_int Try.underlying3 f0
      obtain ⟨u, l, hu, h1, h2, h3⟩ := open_slots f1 (fun n hn => hsz n (by rw [hx]; simp [DataW.weights, DataW.weightsEach, Try.underlying39, hn]))
      simp only [List.cons.injEq, and_true] at hp hu
      subst hp hu
      exact ⟨(p, l), e1, rfl, h1, h2, h3, i64_bounds hpw⟩

section
variable {H : Type} {enc : TypeId × Value → H} {W : World} {base : Nat} {v : Value} {d : DataW H} {p : List MemPlace}
set_option maxRecDepth 100000 in
theorem open_pattern (hval : Value.okWide Try.prog W .any base 39 v) (h : DataW.Trod enc Try.prog W 0 (fun _ => true) true 39 v d p) (hsz : ∀ n ∈ d.weights Try.prog 39, n ≤ reachBytes) : ∃ x, PatArg W v x := by
  have hv : ∃ cs, v = .agg cs ∧ cs.size = 2 := by
    simp only [Value.okWide, Try.underlying39] at hval
    obtain ⟨cs, h1, h2, _⟩ := hval
    exact ⟨cs, h1, by rw [h2, Try.cells39]⟩
  obtain ⟨cs, rfl, hcs⟩ := hv
  obtain ⟨⟨l⟩, rfl⟩ : ∃ l : Array Value, l = cs := ⟨cs, rfl⟩
  obtain ⟨fuel, hf⟩ := h
  obtain ⟨x, u, hcs, h1, h2, h3, h4⟩ := open_pat hf hsz
  simp only [Value.cells] at hcs
  obtain rfl := hcs
  exact ⟨x, u, rfl, h1, h2, h3, h4⟩
set_option maxRecDepth 100000 in
theorem open_row1 (hval : Value.okWide Try.prog W .any base 33 v) (h : DataW.Trod enc Try.prog W 0 (fun _ => true) true 33 v d p) (hsz : ∀ n ∈ d.weights Try.prog 33, n ≤ reachBytes) : ∃ s, RowArg W v s := by
  have hv : ∃ cs, v = .agg cs ∧ cs.size = 2 := by
    simp only [Value.okWide, Try.underlying33] at hval
    obtain ⟨cs, h1, h2, _⟩ := hval
    exact ⟨cs, h1, by rw [h2, Try.cells33]⟩
  obtain ⟨cs, rfl, hcs⟩ := hv
  obtain ⟨⟨l⟩, rfl⟩ : ∃ l : Array Value, l = cs := ⟨cs, rfl⟩
  obtain ⟨fuel, hf⟩ := h
  obtain ⟨s, u, hcs, h1, h2, h3, h4⟩ := open_row hf hsz
  simp only [Value.cells] at hcs
  obtain rfl := hcs
  exact ⟨s, u, rfl, h1, h2, h3, h4⟩
set_option maxRecDepth 100000 in
theorem open_turn (hval : Value.okWide Try.prog W .any base 41 v) (h : DataW.Trod enc Try.prog W 0 (fun _ => true) true 41 v d p) (_hsz : ∀ n ∈ d.weights Try.prog 41, n ≤ reachBytes) : ∃ x, TurnArg v x := by
  have hv : ∃ cs, v = .agg cs ∧ cs.size = 3 := by
    simp only [Value.okWide, Try.underlying41] at hval
    obtain ⟨cs, h1, h2, _⟩ := hval
    exact ⟨cs, h1, by rw [h2, Try.cells41]⟩
  obtain ⟨cs, rfl, hcs⟩ := hv
  obtain ⟨⟨l⟩, rfl⟩ : ∃ l : Array Value, l = cs := ⟨cs, rfl⟩
  match l, hcs with
  | [A, u, E], _ =>
    obtain ⟨fuel, hf⟩ := h
    obtain ⟨y0, y1, y2, n, hx, _, f0, f1, f2⟩ := trod_struct3 Try.underlying41 hf
    simp [Value.cells, Try.cells3] at f0 f1 f2
    obtain ⟨a, ha, _, wa⟩ := DataW.trod_int Try.underlying3 f0
    obtain ⟨b, hb, _, wb⟩ := DataW.trod_int Try.underlying3 f1
    obtain ⟨c, hc, _, wc⟩ := DataW.trod_int Try.underlying3 f2
    simp only [List.cons.injEq, and_true] at ha hb hc
    subst ha hb hc
    exact ⟨(a, b, c), rfl, i64_bounds wa, i64_bounds wb, i64_bounds wc⟩
end

end Go.Proofs.Ytlandkindbmbfaa
