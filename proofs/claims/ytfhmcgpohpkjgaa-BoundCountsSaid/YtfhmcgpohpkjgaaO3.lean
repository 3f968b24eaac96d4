/-
  Opening of arguments: plans and slices of nodes that came in, as the walks are told of them; and the walk of BoundTokens. No condition.
-/
import Derived.Test.YtfhmcgpohpkjgaaO2
import Derived.Test.YtfhmcgpohpkjgaaW8
import Derived.Deep.Strs
namespace Go.Proofs.Ytfhmcgpohpkjgaa
open Go.RowKit Plain Go.ChangeShapes Go.WideShapes Go.ChangeAt Go.Deep Go.Joins

theorem Try.cells70 : Try.prog.cellsOf 70 = 11 := by kernel_rfl
theorem Try.cells68 : Try.prog.cellsOf 68 = 5 := by kernel_rfl
theorem Try.cells66 : Try.prog.cellsOf 66 = 2 := by kernel_rfl
theorem Try.cells64 : Try.prog.cellsOf 64 = 1 := by kernel_rfl
theorem Try.cells35 : Try.prog.cellsOf 35 = 1 := by kernel_rfl
theorem Try.cells34 : Try.prog.cellsOf 34 = 1 := by kernel_rfl
theorem Try.cells33 : Try.prog.cellsOf 33 = 1 := by kernel_rfl
theorem Try.cells4 : Try.prog.cellsOf 4 = 1 := by kernel_rfl
theorem Try.cells37 : Try.prog.cellsOf 37 = 3 := by kernel_rfl
theorem Try.bytes70 : 8 ≤ Try.prog.bytesOf 70 := of_decide_eq_true (by kernel_rfl)

section
variable {H : Type} {enc : TypeId × Value → H} {w : World} {base : Nat} {spare : Nat → Bool} {held : Bool}

theorem open_slot {fuel : Nat} {c d : Value} {x : DataW H × List MemPlace} (h : DataW.trod enc Try.prog w base spare held fuel 66 [c, d] = some x) : ∃ (b : Bool) (n : Int), c = .bool b ∧ d = .int .i64 n := by
  obtain ⟨xs, n, _, _, hl, hlen, hf⟩ := DataW.trod_struct Try.underlying66 h
  match xs, hlen with
  | [y0, y1], _ =>
    have f0 : DataW.trod enc Try.prog w base spare held n 4 [c] = some y0 := by
      have := hf 0 _ rfl
      simpa [Try.cells4] using this
    have f1 : DataW.trod enc Try.prog w base spare held n 3 [d] = some y1 := by
      have := hf 1 _ rfl
      simpa [Try.cells3] using this
    obtain ⟨b, hb, _⟩ := DataW.trod_bool Try.underlying4 f0
    obtain ⟨q, hq, _, _⟩ := DataW.trod_int Try.underlying3 f1
    simp only [List.cons.injEq, and_true] at hb hq
    exact ⟨b, q, hb, hq⟩

set_option maxRecDepth 100000 in
theorem open_node {fuel : Nat} {cs : List Value} {x : DataW H × List MemPlace} (h : DataW.trod enc Try.prog w base spare held fuel 70 cs = some x) :
    ∃ (k p q r s t wd : Int) (b1 b2 : Bool) (a1 a2 : Option Addr) (n1 n2 c1 c2 : Nat), cs = [.int .i64 k, .int .i64 p, .int .i64 q, .slice a1 n1 c1, .slice a2 n2 c2, .int .i64 r, .bool b1, .int .i64 s, .bool b2, .int .i64 t, .int .i64 wd] ∧
      -9223372036854775808 ≤ wd ∧ wd ≤ 9223372036854775807 := by
  obtain ⟨xs, n, _, _, hl, hlen, hf⟩ := DataW.trod_struct Try.underlying70 h
  rw [Try.cells70] at hl
  match cs, hl with
  | [e0, e1, e2, e3, e4, e5, e6, e7, e8, e9, e10], _ =>
    match xs, hlen with
    | [y0, y1, y2, y3, y4, y5, y6], _ =>
      have f0 : DataW.trod enc Try.prog w base spare held n 3 [e0] = some y0 := by
        have := hf 0 _ rfl
        simpa [Try.cells3] using this
      have f1 : DataW.trod enc Try.prog w base spare held n 3 [e1] = some y1 := by
        have := hf 1 _ rfl
        simpa [Try.cells3] using this
      have f2 : DataW.trod enc Try.prog w base spare held n 3 [e2] = some y2 := by
        have := hf 2 _ rfl
        simpa [Try.cells3] using this
      have f3 : DataW.trod enc Try.prog w base spare held n 64 [e3] = some y3 := by
        have := hf 3 _ rfl
        simpa [Try.cells64] using this
      have f4 : DataW.trod enc Try.prog w base spare held n 35 [e4] = some y4 := by
        have := hf 4 _ rfl
        simpa [Try.cells35] using this
      have f5 : DataW.trod enc Try.prog w base spare held n 68 [e5, e6, e7, e8, e9] = some y5 := by
        have := hf 5 _ rfl
        simpa [Try.cells68] using this
      have f6 : DataW.trod enc Try.prog w base spare held n 3 [e10] = some y6 := by
        have := hf 6 _ rfl
        simpa [Try.cells3] using this
      obtain ⟨zs, m, _, _, _, hlen2, hg⟩ := DataW.trod_struct Try.underlying68 f5
      match zs, hlen2 with
      | [z0, z1, z2], _ =>
        have g0 : DataW.trod enc Try.prog w base spare held m 3 [e5] = some z0 := by
          have := hg 0 _ rfl
          simpa [Try.cells3] using this
        have g1 : DataW.trod enc Try.prog w base spare held m 66 [e6, e7] = some z1 := by
          have := hg 1 _ rfl
          simpa [Try.cells66] using this
        have g2 : DataW.trod enc Try.prog w base spare held m 66 [e8, e9] = some z2 := by
          have := hg 2 _ rfl
          simpa [Try.cells66] using this
        obtain ⟨k, h0, _, _⟩ := DataW.trod_int Try.underlying3 f0
        obtain ⟨p, h1, _, _⟩ := DataW.trod_int Try.underlying3 f1
        obtain ⟨q, h2, _, _⟩ := DataW.trod_int Try.underlying3 f2
        obtain ⟨a1, n1, c1, h3⟩ := slice_form Try.underlying64 f3
        obtain ⟨a2, n2, c2, h4⟩ := slice_form Try.underlying35 f4
        obtain ⟨r, h5, _, _⟩ := DataW.trod_int Try.underlying3 g0
        obtain ⟨b1, s, h6, h7⟩ := open_slot g1
        obtain ⟨b2, t, h8, h9⟩ := open_slot g2
        obtain ⟨wd, h10, _, hwf⟩ := DataW.trod_int Try.underlying3 f6
        simp only [List.cons.injEq, and_true] at h0 h1 h2 h3 h4 h5 h10
        subst h0 h1 h2 h3 h4 h5 h6 h7 h8 h9 h10
        have hb := i64_bounds hwf
        exact ⟨k, p, q, r, s, t, wd, b1, b2, a1, a2, n1, n2, c1, c2, rfl, hb.1, hb.2⟩
end

def NodesArg (W : World) (v : Value) (ns : List (Int × Int)) : Prop := NodesAt W W.heap.size v ns ∧ Wid ns ∧ ns.length ≤ 17592186043904

set_option maxRecDepth 100000 in
theorem open_nodes {H : Type} {enc : TypeId × Value → H} {W : World} {fuel : Nat} {v : Value} {d : DataW H} {p : List MemPlace}
    (hf : DataW.trod enc Try.prog W 0 (fun _ => true) true fuel 34 [v] = some (d, p)) (hsz : ∀ n ∈ d.weights Try.prog 34, n ≤ reachBytes) : ∃ ns, NodesArg W v ns := by
  rcases open_slice Try.underlying34 hf with ⟨hcs, _⟩ | ⟨x, len, cap, m, k, D, Pl, hcs, _, hl, hm, hmm, hx, hcell⟩
  · simp only [List.cons.injEq, and_true] at hcs
    subst hcs
    exact ⟨[], ⟨none, 0, rfl, .inl rfl⟩, fun j => by simp, by simp⟩
  · simp only [List.cons.injEq, and_true] at hcs
    subst hcs
    simp only [if_true] at hmm
    subst hmm
    simp only [Prod.mk.injEq] at hx
    have hw : len * 8 ≤ reachBytes := by
      have := hsz ((len + (m - len)) * Try.prog.bytesOf 70) (by rw [hx.1]; simp [DataW.weights, Try.underlying34])
      have h8 := Nat.mul_le_mul_left (len + (m - len)) Try.bytes70
      omega
    have hlr : len ≤ 17592186043904 := by simp only [reachBytes] at hw; omega
    clear hw hsz hx
    by_cases h0 : len = 0
    · subst h0
      exact ⟨[], ⟨some x, m, rfl, .inl rfl⟩, fun j => by simp, by simp⟩
    · obtain ⟨b, off, sp⟩ := x
      have first : sp = none ∧ b < W.heap.size := by
        obtain ⟨cs', hc1, hc2⟩ := hcell 0 (by omega)
        rw [Try.cells70] at hc1
        obtain ⟨k, p, q, r, s, t, wd, b1, b2, a1, a2, n1, n2, c1, c2, rfl, hw1, hw2⟩ := open_node hc2
        have hc := (World.cells?_some hc1).2.2 0 (by omega)
        have e : ((⟨b, off, sp⟩ : Addr).add (0 * 11)).add 0 = ⟨b, off, sp⟩ := by simp [Addr.add]
        rw [e] at hc
        exact ⟨World.cell?_spot hc, World.block_lt_of_cell? W _ hc⟩
      obtain ⟨rfl, hb⟩ := first
      have each : ∀ i, i < len → ∃ xx : Int × Int, (-9223372036854775808 ≤ xx.2 ∧ xx.2 ≤ 9223372036854775807) ∧ NodeCells W b (off + i * 11) xx := by
        intro i hi
        obtain ⟨cs', hc1, hc2⟩ := hcell i (by omega)
        rw [Try.cells70] at hc1
        obtain ⟨k, p, q, r, s, t, wd, b1, b2, a1, a2, n1, n2, c1, c2, rfl, hw1, hw2⟩ := open_node hc2
        have hc := (World.cells?_some hc1).2.2
        have e : ∀ j, ((⟨b, off, none⟩ : Addr).add (i * 11)).add j = ⟨b, off + i * 11 + j, none⟩ := fun j => by
          rw [add_add]; unfold Addr.add; split
          · rename_i h; congr 1; omega
          · show (⟨b, off + (i * 11 + j), none⟩ : Addr) = _
            congr 1; omega
        have g : ∀ j, j < 11 → W.cell? ⟨b, off + i * 11 + j, none⟩ = [Value.int .i64 k, .int .i64 p, .int .i64 q, .slice a1 n1 c1, .slice a2 n2 c2, .int .i64 r, .bool b1, .int .i64 s, .bool b2, .int .i64 t, .int .i64 wd][j]? := fun j hj => by
          rw [← e j]; exact hc j hj
        exact ⟨(k, wd), ⟨hw1, hw2⟩, p, q, r, s, t, b1, b2, a1, a2, n1, n2, c1, c2, g 0 (by omega), g 1 (by omega), g 2 (by omega), g 3 (by omega), g 4 (by omega), g 5 (by omega), g 6 (by omega), g 7 (by omega), g 8 (by omega), g 9 (by omega), g 10 (by omega)⟩
      obtain ⟨f, hfm⟩ := choose_lt each
      have hlen : ((List.range len).map f).length = len := by simp
      have hget : ∀ j, j < len → ((List.range len).map f)[j]?.getD (0, 0) = f j := fun j hj => by simp [hj]
      refine ⟨(List.range len).map f, ⟨some ⟨b, off, none⟩, m, by rw [hlen], .inr ⟨b, off, rfl, hb, fun j hj => ?_⟩⟩, fun j => ?_, by rw [hlen]; exact hlr⟩
      · rw [hlen] at hj
        rw [hget j hj]; exact (hfm j hj).2
      · by_cases hj : j < len
        · rw [hget j hj]; exact (hfm j hj).1
        · rw [List.getElem?_eq_none (by rw [hlen]; omega)]; simp

def PlanArg (W : World) (v : Value) (ns : List (Int × Int)) : Prop :=
  ∃ A u E, v = .agg #[A, u, E] ∧ (∃ a n c, A = .slice a n c) ∧ (∃ a n c, E = .slice a n c) ∧ NodesArg W u ns

set_option maxRecDepth 100000 in
theorem open_plan {H : Type} {enc : TypeId × Value → H} {W : World} {base : Nat} {v : Value} {d : DataW H} {p : List MemPlace} (hval : Value.okWide Try.prog W .any base 37 v)
    (h : DataW.Trod enc Try.prog W 0 (fun _ => true) true 37 v d p) (hsz : ∀ n ∈ d.weights Try.prog 37, n ≤ reachBytes) : ∃ ns, PlanArg W v ns := by
  have hv : ∃ cs, v = .agg cs ∧ cs.size = 3 := by
    simp only [Value.okWide, Try.underlying37] at hval
    obtain ⟨cs, h1, h2, _⟩ := hval
    exact ⟨cs, h1, by rw [h2, Try.cells37]⟩
  obtain ⟨cs, rfl, hcs⟩ := hv
  obtain ⟨⟨l⟩, rfl⟩ : ∃ l : Array Value, l = cs := ⟨cs, rfl⟩
  match l, hcs with
  | [A, u, E], _ =>
    obtain ⟨fuel, hf⟩ := h
    obtain ⟨y0, y1, y2, n, hx, _, f0, f1, f2⟩ := trod_struct3 Try.underlying37 hf
    simp only [Prod.mk.injEq] at hx
    simp [Value.cells, Try.cells33, Try.cells34, Try.cells35] at f0 f1 f2
    obtain ⟨ns, hns⟩ := open_nodes (d := y1.1) (p := y1.2) f1 (fun k hk => hsz k (by rw [hx.1]; simp [DataW.weights, Try.underlying37, DataW.weightsEach, hk]))
    obtain ⟨a1, n1, c1, h1⟩ := slice_form Try.underlying33 f0
    obtain ⟨a2, n2, c2, h2⟩ := slice_form Try.underlying35 f2
    simp only [List.cons.injEq, and_true] at h1 h2
    exact ⟨ns, A, u, E, rfl, ⟨a1, n1, c1, h1⟩, ⟨a2, n2, c2, h2⟩, hns⟩

set_option maxRecDepth 100000 in
theorem tokens_row (d : Int) (hd : -9223372036854775808 ≤ d ∧ d ≤ 9223372036854775807) (v : Value) (ns : List (Int × Int)) {W : World} (h : PlanArg W v ns) :
    Calls Try.prog 11 #[.int .i64 d, v] W fun e w' => e = .returned (.bool true) ∧ Below W.heap.size W w' := by
  obtain ⟨A, u, E, rfl, hA, hE, hr, hv, hn⟩ := h
  have HD := Lib.hid (IntIs.mk hd)
  obtain ⟨D, hDD⟩ : ∃ D, D = d.toNat := ⟨_, rfl⟩
  rw [← hDD] at HD
  clear hDD hd
  obtain ⟨A1, A2, A3, rfl⟩ := hA
  obtain ⟨E1, E2, E3, rfl⟩ := hE
  obtain ⟨U1, U3, rfl, hu⟩ := hr
  have hr : NodesAt W W.heap.size (.slice U1 ns.length U3) ns := ⟨U1, U3, rfl, hu⟩
  clear hu
  have hA : ∃ a n c, (Value.slice A1 A2 A3) = .slice a n c := ⟨_, _, _, rfl⟩
  have hE : ∃ a n c, (Value.slice E1 E2 E3) = .slice a n c := ⟨_, _, _, rfl⟩
  go_enter Try.func11, Try.ntmps11
  go_wp2_with fail
  have hb0 : Below W.heap.size W (W.alloc (.cells #[.slice A1 A2 A3, .slice U1 ns.length U3, .slice E1 E2 E3] 37)) := (Below.refl _ _).alloc (Nat.le_refl _) _
  generalize hW : W.alloc (.cells #[.slice A1 A2 A3, .slice U1 ns.length U3, .slice E1 E2 E3] 37) = Wb at hb0 ⊢
  have k0 : Wb.cell? ⟨W.heap.size, 0, none⟩ = some (.slice A1 A2 A3) := by rw [← hW]; simp [World.cell?_alloc_at]
  have k1 : Wb.cell? ⟨W.heap.size, 1, none⟩ = some (.slice U1 ns.length U3) := by rw [← hW]; simp [World.cell?_alloc_at]
  have k2 : Wb.cell? ⟨W.heap.size, 2, none⟩ = some (.slice E1 E2 E3) := by rw [← hW]; simp [World.cell?_alloc_at]
  have hlt : W.heap.size < Wb.heap.size := by rw [← hW]; simp
  clear hW
  have hrb := (hr.below hb0).mono (Nat.le_of_lt hlt)
  refine (refTokens_any d D HD.out ns _ _ _ Wb hA hE hrb hv (by omega)).mono ?_
  rintro e w1 ⟨rfl, hb1⟩
  have hz1 := hb1.size
  have hr1 := (hrb.below hb1).mono hz1
  have j0 := (hb1.cell (p := ⟨W.heap.size, 0, none⟩) hlt).trans k0
  have j1 := (hb1.cell (p := ⟨W.heap.size, 1, none⟩) hlt).trans k1
  have j2 := (hb1.cell (p := ⟨W.heap.size, 2, none⟩) hlt).trans k2
  clear k0 k1 k2
  go_wp2_with fail
  refine (tokens_any d D HD.out ns _ _ _ w1 hA hE hr1 hv (by omega)).mono ?_
  rintro e w2 ⟨rfl, hb2⟩
  have hz2 := hb2.size
  have hr2 := (hr1.below hb2).mono hz2
  have i0 := (hb2.cell (p := ⟨W.heap.size, 0, none⟩) (show W.heap.size < w1.heap.size by omega)).trans j0
  have i1 := (hb2.cell (p := ⟨W.heap.size, 1, none⟩) (show W.heap.size < w1.heap.size by omega)).trans j1
  have i2 := (hb2.cell (p := ⟨W.heap.size, 2, none⟩) (show W.heap.size < w1.heap.size by omega)).trans j2
  clear j0 j1 j2
  go_wp2_with fail
  refine (refTokens_any d D HD.out ns _ _ _ w2 hA hE hr2 hv (by omega)).mono ?_
  rintro e w3 ⟨rfl, hb3⟩
  clear i0 i1 i2
  go_wp2
  go_ret
  exact ⟨rfl, hb0.trans ((hb1.mono (by omega)).trans ((hb2.mono (by omega)).trans (hb3.mono (by omega))))⟩

end Go.Proofs.Ytfhmcgpohpkjgaa
