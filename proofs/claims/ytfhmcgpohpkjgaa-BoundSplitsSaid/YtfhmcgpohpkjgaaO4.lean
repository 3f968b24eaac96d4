/-
  Opening of arguments: a cut of rules and nodes that came in, as the walk of BoundSplits is told of it. No condition.
-/
import Derived.Test.YtfhmcgpohpkjgaaL5
namespace Go.Proofs.Ytfhmcgpohpkjgaa
open Go.RowKit Plain Go.ChangeShapes Go.WideShapes Go.ChangeAt Go.Deep Go.Joins

theorem Try.cells30 : Try.prog.cellsOf 30 = 1 := by kernel_rfl
theorem Try.cells73 : Try.prog.cellsOf 73 = 4 := by kernel_rfl

theorem slice_shape {H : Type} {enc : TypeId × Value → H} {w : World} {base : Nat} {spare : Nat → Bool} {held : Bool} {t e : TypeId} {fuel : Nat} {v : Value} {y : DataW H × List MemPlace} (ht : Try.prog.underlying t = some (.slice e))
    (hf : DataW.trod enc Try.prog w base spare held fuel t [v] = some y) : ∃ U n c, v = .slice U n c ∧ n ≤ c ∧ (U = none → c = 0) := by
  rcases open_slice ht hf with ⟨hcs, _⟩ | ⟨a', len', cap', m, n, D, Pl, hcs, _, h1, _⟩
  · simp only [List.cons.injEq, and_true] at hcs
    exact ⟨_, _, _, hcs, Nat.le_refl _, fun _ => rfl⟩
  · simp only [List.cons.injEq, and_true] at hcs
    exact ⟨_, _, _, hcs, h1, fun e => by simp at e⟩

set_option maxRecDepth 100000 in
theorem open_rules' {H : Type} {enc : TypeId × Value → H} {W : World} {fuel : Nat} {v : Value} {d : DataW H} {p : List MemPlace}
    (hf : DataW.trod enc Try.prog W 0 (fun _ => true) true fuel 30 [v] = some (d, p)) (hsz : ∀ n ∈ d.weights Try.prog 30, n ≤ reachBytes) : ∃ ms, RulesArg W v ms := by
  rcases open_slice Try.underlying30 hf with ⟨hcs, _⟩ | ⟨x, len, cap, m, k, D, Pl, hcs, _, hl, hm, hmm, hx, hcell⟩
  · simp only [List.cons.injEq, and_true] at hcs
    subst hcs
    exact ⟨[], ⟨none, 0, rfl, .inl rfl⟩, fun j => by simp, by simp⟩
  · simp only [List.cons.injEq, and_true] at hcs
    subst hcs
    simp only [if_true] at hmm
    subst hmm
    simp only [Prod.mk.injEq] at hx
    have hw : len * 8 ≤ reachBytes := by
      have := hsz ((len + (m - len)) * Try.prog.bytesOf 63) (by rw [hx.1]; simp [DataW.weights, Try.underlying30])
      have h8 := Nat.mul_le_mul_left (len + (m - len)) Try.bytes63
      omega
    have hlr : len ≤ 17592186043904 := by simp only [reachBytes] at hw; omega
    clear hw hsz hx
    by_cases h0 : len = 0
    · subst h0
      exact ⟨[], ⟨some x, m, rfl, .inl rfl⟩, fun j => by simp, by simp⟩
    · obtain ⟨b, off, sp⟩ := x
      have first : sp = none ∧ b < W.heap.size := by
        obtain ⟨cs', hc1, hc2⟩ := hcell 0 (by omega)
        rw [Try.cells63] at hc1
        obtain ⟨p, q, a1, a2, a3, a4, a5, n1, n2, n3, n4, mm, c1, c2, c3, c4, c5, rfl, hmb⟩ := open_rule hc2
        have hc := (World.cells?_some hc1).2.2 0 (by omega)
        have e : ((⟨b, off, sp⟩ : Addr).add (0 * 7)).add 0 = ⟨b, off, sp⟩ := by simp [Addr.add]
        rw [e] at hc
        exact ⟨World.cell?_spot hc, World.block_lt_of_cell? W _ hc⟩
      obtain ⟨rfl, hb⟩ := first
      have each : ∀ i, i < len → ∃ mm : Nat, mm ≤ 9223372036854775807 ∧ RuleCells W b (off + i * 7) mm := by
        intro i hi
        obtain ⟨cs', hc1, hc2⟩ := hcell i (by omega)
        rw [Try.cells63] at hc1
        obtain ⟨p, q, a1, a2, a3, a4, a5, n1, n2, n3, n4, mm, c1, c2, c3, c4, c5, rfl, hmb⟩ := open_rule hc2
        have hc := (World.cells?_some hc1).2.2
        have e : ∀ j, ((⟨b, off, none⟩ : Addr).add (i * 7)).add j = ⟨b, off + i * 7 + j, none⟩ := fun j => by
          rw [add_add]; unfold Addr.add; split
          · rename_i h; congr 1; omega
          · show (⟨b, off + (i * 7 + j), none⟩ : Addr) = _
            congr 1; omega
        have g : ∀ j, j < 7 → W.cell? ⟨b, off + i * 7 + j, none⟩ = [Value.int .i64 p, .slice a1 n1 c1, .slice a2 n2 c2, .slice a3 n3 c3, .slice a4 n4 c4, .slice a5 mm c5, .int .i64 q][j]? := fun j hj => by
          rw [← e j]; exact hc j hj
        exact ⟨mm, hmb, p, q, a1, a2, a3, a4, a5, n1, n2, n3, n4, c1, c2, c3, c4, c5, g 0 (by omega), g 1 (by omega), g 2 (by omega), g 3 (by omega), g 4 (by omega), g 5 (by omega), g 6 (by omega)⟩
      obtain ⟨f, hfm⟩ := choose_lt each
      have hlen : ((List.range len).map f).length = len := by simp
      have hget : ∀ j, j < len → ((List.range len).map f)[j]?.getD 0 = f j := fun j hj => by simp [hj]
      refine ⟨(List.range len).map f, ⟨some ⟨b, off, none⟩, m, by rw [hlen], .inr ⟨b, off, rfl, hb, fun j hj => ?_⟩⟩, fun j => ?_, by rw [hlen]; exact hlr⟩
      · rw [hlen] at hj
        rw [hget j hj]; exact (hfm j hj).2
      · by_cases hj : j < len
        · rw [hget j hj]; exact (hfm j hj).1
        · rw [List.getElem?_eq_none (by rw [hlen]; omega)]; simp


def CutArg (W : World) (v : Value) (x : List Nat × List (Int × Int)) : Prop :=
  ∃ (d at' : Int) (U V : Option Addr) (n c m c2 : Nat), v = .agg #[.int .i64 d, .slice U n c, .slice V m c2, .int .i64 at'] ∧ (-9223372036854775808 ≤ d ∧ d ≤ 9223372036854775807) ∧ n ≤ c ∧ (U = none → c = 0) ∧ m ≤ c2 ∧ (V = none → c2 = 0) ∧
    RulesArg W (.slice U n c) x.1 ∧ NodesArg W (.slice V m c2) x.2

set_option maxRecDepth 100000 in
theorem open_cut {H : Type} {enc : TypeId × Value → H} {W : World} {base : Nat} {v : Value} {d : DataW H} {p : List MemPlace} (hval : Value.okWide Try.prog W .any base 73 v)
    (h : DataW.Trod enc Try.prog W 0 (fun _ => true) true 73 v d p) (hsz : ∀ n ∈ d.weights Try.prog 73, n ≤ reachBytes) : ∃ x, CutArg W v x := by
  have hv : ∃ cs, v = .agg cs ∧ cs.size = 4 := by
    simp only [Value.okWide, Try.underlying73] at hval
    obtain ⟨cs, h1, h2, _⟩ := hval
    exact ⟨cs, h1, by rw [h2, Try.cells73]⟩
  obtain ⟨cs, rfl, hcs⟩ := hv
  obtain ⟨⟨l⟩, rfl⟩ : ∃ l : Array Value, l = cs := ⟨cs, rfl⟩
  match l, hcs with
  | [a0, r, n, a3], _ =>
    obtain ⟨fuel, hf⟩ := h
    obtain ⟨xs, k, _, hx, _, hlen, hg⟩ := DataW.trod_struct Try.underlying73 hf
    match xs, hlen with
    | [y0, y1, y2, y3], _ =>
      simp only [Prod.mk.injEq] at hx
      have f0 : DataW.trod enc Try.prog W 0 (fun _ => true) true k 3 [a0] = some y0 := by
        have := hg 0 _ rfl
        simpa [Value.cells, Try.cells3] using this
      have f1 : DataW.trod enc Try.prog W 0 (fun _ => true) true k 30 [r] = some y1 := by
        have := hg 1 _ rfl
        simpa [Value.cells, Try.cells30] using this
      have f2 : DataW.trod enc Try.prog W 0 (fun _ => true) true k 34 [n] = some y2 := by
        have := hg 2 _ rfl
        simpa [Value.cells, Try.cells34] using this
      have f3 : DataW.trod enc Try.prog W 0 (fun _ => true) true k 3 [a3] = some y3 := by
        have := hg 3 _ rfl
        simpa [Value.cells, Try.cells3] using this
      obtain ⟨q, h0, _, hwf⟩ := DataW.trod_int Try.underlying3 f0
      obtain ⟨q2, h3, _, _⟩ := DataW.trod_int Try.underlying3 f3
      simp only [List.cons.injEq, and_true] at h0 h3
      obtain ⟨ms, hms⟩ := open_rules' (d := y1.1) (p := y1.2) f1 (fun z hz => hsz z (by rw [hx.1]; simp [DataW.weights, Try.underlying73, DataW.weightsEach, hz]))
      obtain ⟨ns, hns⟩ := open_nodes (d := y2.1) (p := y2.2) f2 (fun z hz => hsz z (by rw [hx.1]; simp [DataW.weights, Try.underlying73, DataW.weightsEach, hz]))
      obtain ⟨U, n1, c1, h1, h11, h12⟩ := slice_shape Try.underlying30 f1
      obtain ⟨V, m1, c2, h2, h21, h22⟩ := slice_shape Try.underlying34 f2
      subst h0 h3 h1 h2
      exact ⟨(ms, ns), q, q2, U, V, n1, c1, m1, c2, rfl, i64_bounds hwf, h11, h12, h21, h22, hms, hns⟩

theorem splits_row (v : Value) (x : List Nat × List (Int × Int)) {W : World} (h : CutArg W v x) :
    Calls Try.prog 15 #[v] W fun e w' => e = .returned (.bool true) ∧ Below W.heap.size W w' := by
  obtain ⟨d, at', U, V, n, c, m, c2, rfl, hd, h1, h2, h3, h4, ⟨r1, r2, r3⟩, ⟨n1, n2, n3⟩⟩ := h
  have hl1 : x.1.length = n := by obtain ⟨a, cap, e, _⟩ := r1; simp only [Value.slice.injEq] at e; omega
  have hl2 : x.2.length = m := by obtain ⟨a, cap, e, _⟩ := n1; simp only [Value.slice.injEq] at e; omega
  exact splits_walk d d.toNat (IntIs.mk hd) x.1 x.2 U V n c m c2 at' W r1 r2 (by omega) h1 h2 h4 n1 n2 (by omega) h3

end Go.Proofs.Ytfhmcgpohpkjgaa
