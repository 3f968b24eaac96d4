/-
  Opening of arguments: a list of patterns with each one's length; the walk of AlphaHolds. No condition.
-/
import Derived.Test.YtlandkindbmbfaaO6
import Derived.Test.YtlandkindbmbfaaL7
namespace Go.Proofs.Ytlandkindbmbfaa
open Go.RowKit Plain Go.ChangeShapes Go.WideShapes Go.ChangeAt Go.Deep Go.Joins

def HoldsArg (w : World) (v : Value) (ps : List Pt) : Prop := PatsArg w v ps ∧ ∀ x, x ∈ ps → x.2.length ≤ 8796093021952

set_option maxRecDepth 100000 in
theorem open_patterns2 {H : Type} {enc : TypeId × Value → H} {W : World} {base : Nat} {v : Value} {d : DataW H} {p : List MemPlace} (hval : Value.okWide Try.prog W .any base 47 v)
    (h : DataW.Trod enc Try.prog W 0 (fun _ => true) true 47 v d p) (hsz : ∀ n ∈ d.weights Try.prog 47, n ≤ reachBytes) : ∃ ps, HoldsArg W v ps := by
  obtain ⟨a0, len, cap, rfl⟩ := okWide_slice Try.underlying47 hval
  obtain ⟨fuel, hf⟩ := h
  rcases open_slice Try.underlying47 hf with ⟨hcs, _⟩ | ⟨x, n, c, m, k, D, Pl, hcs, _, hl, hm, hmm, hx, hcell⟩
  · simp [Value.cells] at hcs
    obtain ⟨rfl, rfl, rfl⟩ := hcs
    exact ⟨[], ⟨⟨none, 0, rfl, .inl rfl⟩, fun s hs => by simp at hs, by simp⟩, fun s hs => by simp at hs⟩
  · simp [Value.cells] at hcs
    obtain ⟨rfl, rfl, rfl⟩ := hcs
    simp only [if_true] at hmm
    subst hmm
    simp only [Prod.mk.injEq] at hx
    have hw : len * 32 ≤ reachBytes := by
      have := hsz ((len + (m - len)) * Try.prog.bytesOf 39) (by rw [hx.1]; simp [DataW.weights, Try.underlying47])
      rw [Try.bytes39] at this
      omega
    have hlr : len ≤ 4398046510976 := by simp only [reachBytes] at hw; omega
    have hD : ∀ i, i < len → ∀ n ∈ (D i).weights Try.prog 39, n ≤ reachBytes := fun i hi n hn => hsz n (by
      rw [hx.1]; unfold DataW.weights; rw [Try.underlying47]
      exact List.mem_cons_of_mem _ (List.mem_append.2 (.inl (mem_weightsAll (List.mem_map.2 ⟨i, List.mem_range.2 hi, rfl⟩) n hn))))
    clear hw hsz hx
    by_cases h0 : len = 0
    · subst h0
      exact ⟨[], ⟨⟨some x, m, rfl, .inl rfl⟩, fun s hs => by simp at hs, by simp⟩, fun s hs => by simp at hs⟩
    · obtain ⟨b, off, sp⟩ := x
      have first : sp = none ∧ b < W.heap.size := by
        obtain ⟨cs', hc1, hc2⟩ := hcell 0 (by omega)
        rw [Try.cells39] at hc1
        obtain ⟨s, u, rfl, _⟩ := open_pat hc2 (hD 0 (by omega))
        have hc := (World.cells?_some hc1).2.2 0 (by omega)
        have e : ((⟨b, off, sp⟩ : Addr).add (0 * 2)).add 0 = ⟨b, off, sp⟩ := by simp [Addr.add]
        rw [e] at hc
        exact ⟨World.cell?_spot hc, World.block_lt_of_cell? W _ hc⟩
      obtain ⟨rfl, hb⟩ := first
      have each : ∀ i, i < len → ∃ x : Pt, (OkPat x ∧ x.2.length ≤ 8796093021952) ∧ ∃ u, W.cell? ⟨b, off + i * 2, none⟩ = some (.int .i64 x.1) ∧ W.cell? ⟨b, off + i * 2 + 1, none⟩ = some u ∧ SlotsAt W W.heap.size u x.2 := by
        intro i hi
        obtain ⟨cs', hc1, hc2⟩ := hcell i (by omega)
        rw [Try.cells39] at hc1
        obtain ⟨x, u, rfl, h1, h2, h3, h4⟩ := open_pat hc2 (hD i hi)
        have hc := (World.cells?_some hc1).2.2
        have g : ∀ j, j < 2 → W.cell? ⟨b, off + i * 2 + j, none⟩ = [Value.int .i64 x.1, u][j]? := fun j hj => by
          have := hc j hj
          rw [addr_add, addr_add] at this; exact this
        exact ⟨x, ⟨⟨h4, h2, Nat.le_trans h3 (by decide)⟩, h3⟩, u, g 0 (by omega), g 1 (by omega), h1⟩
      obtain ⟨f, hfm⟩ := choose_lt each
      have hlen : ((List.range len).map f).length = len := by simp
      refine ⟨(List.range len).map f, ⟨⟨some ⟨b, off, none⟩, m, by rw [hlen], .inr ⟨b, off, rfl, hb, fun j s hj => ?_⟩⟩, fun s hs => ?_, by rw [hlen]; exact hlr⟩, fun s hs => ?_⟩
      · have hjl : j < len := by
          have := (List.getElem?_eq_some_iff.1 hj).1
          omega
        rw [List.getElem?_map, List.getElem?_range hjl] at hj
        simp only [Option.map_some, Option.some.injEq] at hj
        subst hj
        exact (hfm j hjl).2
      · obtain ⟨i, hi, rfl⟩ := List.mem_map.1 hs
        exact (hfm i (List.mem_range.1 hi)).1.1
      · obtain ⟨i, hi, rfl⟩ := List.mem_map.1 hs
        exact (hfm i (List.mem_range.1 hi)).1.2

theorem holds_at (v : Value) (ps : List Pt) {w : World} (h : HoldsArg w v ps) (u : Value) (rows : List Shp) (hu : ShpsArg w u rows) (mark : Int) (_ : -9223372036854775808 ≤ mark ∧ mark ≤ 9223372036854775807) :
    Calls Try.prog 11 #[v, u, .int .i64 mark] w fun e w' => e = .returned (.bool true) ∧ Below w.heap.size w w' := holds_row v ps h.1 h.2 u rows hu mark

end Go.Proofs.Ytlandkindbmbfaa
