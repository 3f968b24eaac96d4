/-
  Opening of arguments: a slice of rules that came in, as the walks are told of it; and the walk of BoundFirings. No condition.
-/
import Derived.Test.YtfhmcgpohpkjgaaO1
import Derived.Test.YtfhmcgpohpkjgaaW6
import Derived.Deep.Slices
namespace Go.Proofs.Ytfhmcgpohpkjgaa
open Go.RowKit Plain Go.ChangeShapes Go.WideShapes Go.ChangeAt Go.Deep Go.Joins

theorem Try.cells63 : Try.prog.cellsOf 63 = 7 := by kernel_rfl
theorem Try.cells59 : Try.prog.cellsOf 59 = 2 := by kernel_rfl
theorem Try.cells3 : Try.prog.cellsOf 3 = 1 := by kernel_rfl
theorem Try.cells57 : Try.prog.cellsOf 57 = 1 := by kernel_rfl
theorem Try.cells60 : Try.prog.cellsOf 60 = 1 := by kernel_rfl
theorem Try.cells61 : Try.prog.cellsOf 61 = 1 := by kernel_rfl
theorem Try.cells56 : Try.prog.cellsOf 56 = 1 := by kernel_rfl
theorem Try.bytes63 : 8 ≤ Try.prog.bytesOf 63 := of_decide_eq_true (by kernel_rfl)

section
variable {H : Type} {enc : TypeId × Value → H} {w : World} {base : Nat} {spare : Nat → Bool} {held : Bool}

theorem slice_len {t e : TypeId} {fuel : Nat} {cs : List Value} {y : DataW H × List MemPlace} (ht : Try.prog.underlying t = some (.slice e)) (hf : DataW.trod enc Try.prog w base spare held fuel t cs = some y) : ∃ a l c, cs = [.slice a l c] ∧ l ≤ 9223372036854775807 := by
  rcases open_slice ht hf with ⟨hcs, _⟩ | ⟨a', len', cap', m, n, D, Pl, hcs, _, h1, h2, _⟩
  · exact ⟨_, _, _, hcs, by omega⟩
  · exact ⟨_, _, _, hcs, by unfold maxLen at h2; omega⟩

set_option maxRecDepth 100000 in
theorem open_rule {fuel : Nat} {cs : List Value} {x : DataW H × List MemPlace} (h : DataW.trod enc Try.prog w base spare held fuel 63 cs = some x) :
    ∃ (p q : Int) (a1 a2 a3 a4 a5 : Option Addr) (n1 n2 n3 n4 m c1 c2 c3 c4 c5 : Nat), cs = [.int .i64 p, .slice a1 n1 c1, .slice a2 n2 c2, .slice a3 n3 c3, .slice a4 n4 c4, .slice a5 m c5, .int .i64 q] ∧ m ≤ 9223372036854775807 := by
  obtain ⟨xs, n, _, _, hl, hlen, hf⟩ := DataW.trod_struct Try.underlying63 h
  rw [Try.cells63] at hl
  match cs, hl with
  | [e0, e1, e2, e3, e4, e5, e6], _ =>
    match xs, hlen with
    | [y0, y1, y2, y3, y4, y5], _ =>
      have f0 : DataW.trod enc Try.prog w base spare held n 59 [e0, e1] = some y0 := by
        have := hf 0 _ rfl
        simpa [Try.cells59] using this
      have f1 : DataW.trod enc Try.prog w base spare held n 60 [e2] = some y1 := by
        have := hf 1 _ rfl
        simpa [Try.cells60] using this
      have f2 : DataW.trod enc Try.prog w base spare held n 61 [e3] = some y2 := by
        have := hf 2 _ rfl
        simpa [Try.cells61] using this
      have f3 : DataW.trod enc Try.prog w base spare held n 60 [e4] = some y3 := by
        have := hf 3 _ rfl
        simpa [Try.cells60] using this
      have f4 : DataW.trod enc Try.prog w base spare held n 56 [e5] = some y4 := by
        have := hf 4 _ rfl
        simpa [Try.cells56] using this
      have f5 : DataW.trod enc Try.prog w base spare held n 3 [e6] = some y5 := by
        have := hf 5 _ rfl
        simpa [Try.cells3] using this
      obtain ⟨ys, k, _, _, _, hlen2, hg⟩ := DataW.trod_struct Try.underlying59 f0
      match ys, hlen2 with
      | [z0, z1], _ =>
        have g0 : DataW.trod enc Try.prog w base spare held k 3 [e0] = some z0 := by
          have := hg 0 _ rfl
          simpa [Try.cells3] using this
        have g1 : DataW.trod enc Try.prog w base spare held k 57 [e1] = some z1 := by
          have := hg 1 _ rfl
          simpa [Try.cells57] using this
        obtain ⟨p, hp, _, _⟩ := DataW.trod_int Try.underlying3 g0
        obtain ⟨a1, n1, c1, h1⟩ := slice_form Try.underlying57 g1
        obtain ⟨a2, n2, c2, h2⟩ := slice_form Try.underlying60 f1
        obtain ⟨a3, n3, c3, h3⟩ := slice_form Try.underlying61 f2
        obtain ⟨a4, n4, c4, h4⟩ := slice_form Try.underlying60 f3
        obtain ⟨a5, m, c5, h5, hm⟩ := slice_len Try.underlying56 f4
        obtain ⟨q, hq, _, _⟩ := DataW.trod_int Try.underlying3 f5
        simp only [List.cons.injEq, and_true] at hp h1 h2 h3 h4 h5 hq
        subst hp h1 h2 h3 h4 h5 hq
        exact ⟨p, q, a1, a2, a3, a4, a5, n1, n2, n3, n4, m, c1, c2, c3, c4, c5, rfl, hm⟩
end

def RulesArg (W : World) (v : Value) (ms : List Nat) : Prop := RulesAt W W.heap.size v ms ∧ Vars ms ∧ ms.length ≤ 17592186043904

set_option maxRecDepth 100000 in
theorem open_rules {H : Type} {enc : TypeId × Value → H} {W : World} {base : Nat} {v : Value} {d : DataW H} {p : List MemPlace} (hval : Value.okWide Try.prog W .any base 30 v)
    (h : DataW.Trod enc Try.prog W 0 (fun _ => true) true 30 v d p) (hsz : ∀ n ∈ d.weights Try.prog 30, n ≤ reachBytes) : ∃ ms, RulesArg W v ms := by
  obtain ⟨a0, len, cap, rfl⟩ := okWide_slice Try.underlying30 hval
  obtain ⟨fuel, hf⟩ := h
  rcases open_slice Try.underlying30 hf with ⟨hcs, _⟩ | ⟨x, n, c, m, k, D, Pl, hcs, _, hl, hm, hmm, hx, hcell⟩
  · simp [Value.cells] at hcs
    obtain ⟨rfl, rfl, rfl⟩ := hcs
    exact ⟨[], ⟨none, 0, rfl, .inl rfl⟩, fun j => by simp, by simp⟩
  · simp [Value.cells] at hcs
    obtain ⟨rfl, rfl, rfl⟩ := hcs
    simp only [if_true] at hmm
    subst hmm
    simp only [Prod.mk.injEq] at hx
    have hw : len * 8 ≤ reachBytes := by
      have := hsz ((len + (m - len)) * Try.prog.bytesOf 63) (by rw [hx.1]; simp [DataW.weights, Try.underlying30])
      have h8 := Nat.mul_le_mul_left (len + (m - len)) Try.bytes63
      omega
    have hlr : len ≤ 17592186043904 := by simp only [reachBytes] at hw; omega
    clear hw hsz hx
    by_cases h0 : len = 0
    · subst h0
      exact ⟨[], ⟨some x, m, rfl, .inl rfl⟩, fun j => by simp, by simp⟩
    · obtain ⟨b, off, sp⟩ := x
      have first : sp = none ∧ b < W.heap.size := by
        obtain ⟨cs', hc1, hc2⟩ := hcell 0 (by omega)
        rw [Try.cells63] at hc1
        obtain ⟨p, q, a1, a2, a3, a4, a5, n1, n2, n3, n4, mm, c1, c2, c3, c4, c5, rfl, hmb⟩ := open_rule hc2
        have hc := (World.cells?_some hc1).2.2 0 (by omega)
        have e : ((⟨b, off, sp⟩ : Addr).add (0 * 7)).add 0 = ⟨b, off, sp⟩ := by simp [Addr.add]
        rw [e] at hc
        exact ⟨World.cell?_spot hc, World.block_lt_of_cell? W _ hc⟩
      obtain ⟨rfl, hb⟩ := first
      have each : ∀ i, i < len → ∃ mm : Nat, mm ≤ 9223372036854775807 ∧ RuleCells W b (off + i * 7) mm := by
        intro i hi
        obtain ⟨cs', hc1, hc2⟩ := hcell i (by omega)
        rw [Try.cells63] at hc1
        obtain ⟨p, q, a1, a2, a3, a4, a5, n1, n2, n3, n4, mm, c1, c2, c3, c4, c5, rfl, hmb⟩ := open_rule hc2
        have hc := (World.cells?_some hc1).2.2
        have e : ∀ j, ((⟨b, off, none⟩ : Addr).add (i * 7)).add j = ⟨b, off + i * 7 + j, none⟩ := fun j => by
          rw [add_add]; unfold Addr.add; split
          · rename_i h; congr 1; omega
          · show (⟨b, off + (i * 7 + j), none⟩ : Addr) = _
            congr 1; omega
        have g : ∀ j, j < 7 → W.cell? ⟨b, off + i * 7 + j, none⟩ = [Value.int .i64 p, .slice a1 n1 c1, .slice a2 n2 c2, .slice a3 n3 c3, .slice a4 n4 c4, .slice a5 mm c5, .int .i64 q][j]? := fun j hj => by
          rw [← e j]; exact hc j hj
        exact ⟨mm, hmb, p, q, a1, a2, a3, a4, a5, n1, n2, n3, n4, c1, c2, c3, c4, c5, g 0 (by omega), g 1 (by omega), g 2 (by omega), g 3 (by omega), g 4 (by omega), g 5 (by omega), g 6 (by omega)⟩
      obtain ⟨f, hfm⟩ := choose_lt each
      have hlen : ((List.range len).map f).length = len := by simp
      have hget : ∀ j, j < len → ((List.range len).map f)[j]?.getD 0 = f j := fun j hj => by simp [hj]
      refine ⟨(List.range len).map f, ⟨some ⟨b, off, none⟩, m, by rw [hlen], .inr ⟨b, off, rfl, hb, fun j hj => ?_⟩⟩, fun j => ?_, by rw [hlen]; exact hlr⟩
      · rw [hlen] at hj
        rw [hget j hj]; exact (hfm j hj).2
      · by_cases hj : j < len
        · rw [hget j hj]; exact (hfm j hj).1
        · rw [List.getElem?_eq_none (by rw [hlen]; omega)]; simp

theorem int_case {d : Int} (h : -9223372036854775808 ≤ d ∧ d ≤ 9223372036854775807) : ∃ D : Nat, (d = (D : Int) ∧ D ≤ 9223372036854775807) ∨ (d < 0 ∧ D = 0 ∧ -9223372036854775808 ≤ d) := by
  by_cases h0 : 0 ≤ d
  · exact ⟨d.toNat, .inl ⟨by omega, by omega⟩⟩
  · exact ⟨0, .inr ⟨by omega, rfl, h.1⟩⟩

set_option maxRecDepth 100000 in
theorem firings_row (d : Int) (hd : -9223372036854775808 ≤ d ∧ d ≤ 9223372036854775807) (v : Value) (ms : List Nat) {W : World} (h : RulesArg W v ms) :
    Calls Try.prog 10 #[.int .i64 d, v] W fun e w' => e = .returned (.bool true) ∧ Below W.heap.size W w' := by
  obtain ⟨D, hD⟩ := int_case hd
  obtain ⟨hr, hv, hn⟩ := h
  have HD := Lib.hid hD
  clear hD hd
  go_enter Try.func10, Try.ntmps10
  go_wp2_with fail
  refine (refFirings_any d D HD.out ms v W hr hv (by omega)).mono ?_
  rintro e w1 ⟨rfl, hb1⟩
  have hz1 := hb1.size
  have hr1 := (hr.below hb1).mono hz1
  go_wp2_with fail
  refine (firings_any d D HD.out ms v w1 hr1 hv (by omega)).mono ?_
  rintro e w2 ⟨rfl, hb2⟩
  have hz2 := hb2.size
  have hr2 := (hr1.below hb2).mono hz2
  go_wp2_with fail
  refine (refFirings_any d D HD.out ms v w2 hr2 hv (by omega)).mono ?_
  rintro e w3 ⟨rfl, hb3⟩
  go_wp2
  go_ret
  exact ⟨rfl, hb1.trans ((hb2.mono hz1).trans (hb3.mono (by omega)))⟩

end Go.Proofs.Ytfhmcgpohpkjgaa
