/-
  Opening of arguments: slices of ints, shapes, rows of ids that came in, as the walks are told of them. No condition.
-/
import Derived.Test.YtlandkindbmbfaaK2
import Derived.ProofKit
import Derived.SizedLaws
import Derived.OpenShut
import Derived.Deep.Slices
namespace Go.Proofs.Ytlandkindbmbfaa
open Go.RowKit Plain Go.ChangeShapes Go.WideShapes Go.ChangeAt Go.Deep Go.Joins

theorem nat_u64 {z : Int} (h : (Lit.int .u64 z).wf = true) : ∃ n : Nat, z = (n : Int) ∧ n < 18446744073709551616 := by
  have h1 : IntKind.u64.min = 0 := rfl
  have h2 : IntKind.u64.max = 18446744073709551615 := rfl
  simp only [Lit.wf, Bool.and_eq_true, decide_eq_true_eq] at h
  exact ⟨z.toNat, by omega, by omega⟩
theorem i64_bounds {z : Int} (h : (Lit.int .i64 z).wf = true) : -9223372036854775808 ≤ z ∧ z ≤ 9223372036854775807 := by
  have h1 : IntKind.i64.min = -9223372036854775808 := rfl
  have h2 : IntKind.i64.max = 9223372036854775807 := rfl
  simp only [Lit.wf, Bool.and_eq_true, decide_eq_true_eq] at h
  omega

instance : Inhabited Shp := ⟨⟨0, []⟩⟩
theorem Try.cells3 : Try.prog.cellsOf 3 = 1 := by kernel_rfl
theorem Try.cells25 : Try.prog.cellsOf 25 = 1 := by kernel_rfl
theorem Try.bytes3 : Try.prog.bytesOf 3 = 8 := by kernel_rfl

set_option maxRecDepth 100000 in
theorem open_intlist {H : Type} {enc : TypeId × Value → H} {W : World} {fuel : Nat} {cs : List Value} {y : DataW H × List MemPlace}
    (hf : DataW.trod enc Try.prog W 0 (fun _ => true) true fuel 25 cs = some y) (hsz : ∀ n ∈ y.1.weights Try.prog 25, n ≤ reachBytes) :
    ∃ u l, cs = [u] ∧ IntsAt W W.heap.size u l ∧ Nilly u ∧ I64s l ∧ l.length ≤ 17592186043904 := by
  rcases open_ints Try.underlying25 Try.underlying3 Try.cells3 hf with ⟨hcs, _⟩ | ⟨x, len, cap, zs, hcs, _, hl, hm, hz, hx, hcell, hwz⟩
  · exact ⟨_, [], hcs, ⟨none, 0, rfl, .inl rfl⟩, fun n c e => by simp at e; omega, fun j => by simp [at'], by simp⟩
  · have hzl : zs.length = cap := by simpa using hz
    have hw : (len + (cap - len)) * 8 ≤ reachBytes := by
      have := hsz ((len + (cap - len)) * 8) (by rw [hx]; simp [DataW.weights, Try.underlying25, Try.bytes3, ChangeShapes.lits, hzl]; omega)
      exact this
    have hlen : (zs.take len).length = len := by simp; omega
    have hget : ∀ j, j < len → at' (zs.take len) j = zs.getD j 0 ∧ -9223372036854775808 ≤ zs.getD j 0 ∧ zs.getD j 0 ≤ 9223372036854775807 := by
      intro j hj
      have hjz : j < zs.length := by omega
      have hwf := i64_bounds (hwz zs[j] (List.getElem_mem hjz))
      unfold at'
      rw [List.getD_eq_getElem?_getD, List.getElem?_take, if_pos hj, List.getElem?_eq_getElem hjz]
      exact ⟨rfl, hwf.1, hwf.2⟩
    refine ⟨_, zs.take len, hcs, ⟨some x, cap, by rw [hlen], ?_⟩, fun n c e => by simp at e, ?_, ?_⟩
    · by_cases h0 : len = 0
      · left; subst h0; simp
      · right
        obtain ⟨b, off, spot⟩ := x
        have hc0 := hcell 0 (by omega)
        have hspot : spot = none := by simpa [Addr.add] using World.cell?_spot hc0
        subst hspot
        refine ⟨b, off, rfl, ?_, fun j hj => ?_⟩
        · exact World.block_lt_of_cell? W _ hc0
        · rw [hlen] at hj
          have hcj := hcell j (by omega)
          rw [addr_add] at hcj
          rw [hcj, (hget j hj).1]
    · intro j
      by_cases hj : j < len
      · obtain ⟨g1, g2, g3⟩ := hget j hj
        rw [g1]; omega
      · unfold at'
        rw [List.getElem?_eq_none (by omega)]; simp
    · rw [hlen]; simp only [reachBytes] at hw; omega

theorem mem_weightsAll {H : Type} {P : Program} {e : TypeId} : ∀ {ds : List (DataW H)} {d : DataW H}, d ∈ ds → ∀ n ∈ d.weights P e, n ∈ DataW.weightsAll P e ds
  | [], _, h, _, _ => by simp at h
  | x :: ds, d, h, n, hn => by
    unfold DataW.weightsAll
    rcases List.mem_cons.1 h with rfl | h
    · exact List.mem_append.2 (.inl hn)
    · exact List.mem_append.2 (.inr (mem_weightsAll h n hn))

theorem Try.cells27 : Try.prog.cellsOf 27 = 2 := by kernel_rfl
theorem Try.bytes27 : Try.prog.bytesOf 27 = 32 := by kernel_rfl

set_option maxRecDepth 100000 in
theorem open_shape {H : Type} {enc : TypeId × Value → H} {W : World} {fuel : Nat} {cs : List Value} {y : DataW H × List MemPlace}
    (hf : DataW.trod enc Try.prog W 0 (fun _ => true) true fuel 27 cs = some y) (hsz : ∀ n ∈ y.1.weights Try.prog 27, n ≤ reachBytes) :
    ∃ (s : Shp) (u : Value), cs = [.int .i64 s.pred, u] ∧ IntsAt W W.heap.size u s.cells ∧ Nilly u ∧ Okay s ∧ s.cells.length ≤ 17592186044400 := by
  obtain ⟨xs, n, _, hx, hl, hlen, hg⟩ := DataW.trod_struct Try.underlying27 hf
  rw [Try.cells27] at hl
  match cs, hl with
  | [e0, e1], _ =>
    match xs, hlen with
    | [y0, y1], _ =>
      have f0 : DataW.trod enc Try.prog W 0 (fun _ => true) true n 3 [e0] = some y0 := by
        have := hg 0 _ rfl
        simpa [Try.cells3] using this
      have f1 : DataW.trod enc Try.prog W 0 (fun _ => true) true n 25 [e1] = some y1 := by
        have := hg 1 _ rfl
        simpa [Try.cells25] using this
      obtain ⟨p, hp, _, hpw⟩ := DataW.trod_int Try.underlying3 f0
      obtain ⟨u, l, hu, h1, h2, h3, h4⟩ := open_intlist f1 (fun n hn => hsz n (by rw [hx]; simp [DataW.weights, DataW.weightsEach, Try.underlying27, hn]))
      simp only [List.cons.injEq, and_true] at hp hu
      subst hp hu
      have hb := i64_bounds hpw
      exact ⟨⟨p, l⟩, e1, rfl, h1, h2, ⟨hb.1, hb.2, h3, by simp only; omega⟩, by simp only; omega⟩

set_option maxRecDepth 100000 in
theorem open_shapes {H : Type} {enc : TypeId × Value → H} {W : World} {base : Nat} {v : Value} {d : DataW H} {p : List MemPlace} (hval : Value.okWide Try.prog W .any base 22 v)
    (h : DataW.Trod enc Try.prog W 0 (fun _ => true) true 22 v d p) (hsz : ∀ n ∈ d.weights Try.prog 22, n ≤ reachBytes) : ∃ ss, ShpsAt W W.heap.size v ss ∧ Okays ss ∧ ss.length ≤ 4398046510976 := by
  obtain ⟨a0, len, cap, rfl⟩ := okWide_slice Try.underlying22 hval
  obtain ⟨fuel, hf⟩ := h
  rcases open_slice Try.underlying22 hf with ⟨hcs, _⟩ | ⟨x, n, c, m, k, D, Pl, hcs, _, hl, hm, hmm, hx, hcell⟩
  · simp [Value.cells] at hcs
    obtain ⟨rfl, rfl, rfl⟩ := hcs
    exact ⟨[], ⟨none, 0, rfl, .inl rfl⟩, fun s hs => by simp at hs, by simp⟩
  · simp [Value.cells] at hcs
    obtain ⟨rfl, rfl, rfl⟩ := hcs
    simp only [if_true] at hmm
    subst hmm
    simp only [Prod.mk.injEq] at hx
    have hw : len * 32 ≤ reachBytes := by
      have := hsz ((len + (m - len)) * Try.prog.bytesOf 27) (by rw [hx.1]; simp [DataW.weights, Try.underlying22])
      rw [Try.bytes27] at this
      omega
    have hlr : len ≤ 4398046510976 := by simp only [reachBytes] at hw; omega
    have hD : ∀ i, i < len → ∀ n ∈ (D i).weights Try.prog 27, n ≤ reachBytes := fun i hi n hn => hsz n (by
      rw [hx.1]; unfold DataW.weights; rw [Try.underlying22]
      exact List.mem_cons_of_mem _ (List.mem_append.2 (.inl (mem_weightsAll (List.mem_map.2 ⟨i, List.mem_range.2 hi, rfl⟩) n hn))))
    clear hw hsz hx
    by_cases h0 : len = 0
    · subst h0
      exact ⟨[], ⟨some x, m, rfl, .inl rfl⟩, fun s hs => by simp at hs, by simp⟩
    · obtain ⟨b, off, sp⟩ := x
      have first : sp = none ∧ b < W.heap.size := by
        obtain ⟨cs', hc1, hc2⟩ := hcell 0 (by omega)
        rw [Try.cells27] at hc1
        obtain ⟨s, u, rfl, _⟩ := open_shape hc2 (hD 0 (by omega))
        have hc := (World.cells?_some hc1).2.2 0 (by omega)
        have e : ((⟨b, off, sp⟩ : Addr).add (0 * 2)).add 0 = ⟨b, off, sp⟩ := by simp [Addr.add]
        rw [e] at hc
        exact ⟨World.cell?_spot hc, World.block_lt_of_cell? W _ hc⟩
      obtain ⟨rfl, hb⟩ := first
      have each : ∀ i, i < len → ∃ s : Shp, (Okay s ∧ s.cells.length ≤ 17592186044400) ∧ ∃ u, W.cell? ⟨b, off + i * 2, none⟩ = some (.int .i64 s.pred) ∧ W.cell? ⟨b, off + i * 2 + 1, none⟩ = some u ∧ IntsAt W W.heap.size u s.cells ∧ Nilly u := by
        intro i hi
        obtain ⟨cs', hc1, hc2⟩ := hcell i (by omega)
        rw [Try.cells27] at hc1
        obtain ⟨s, u, rfl, h1, h2, h3, h4⟩ := open_shape hc2 (hD i hi)
        have hc := (World.cells?_some hc1).2.2
        have g : ∀ j, j < 2 → W.cell? ⟨b, off + i * 2 + j, none⟩ = [Value.int .i64 s.pred, u][j]? := fun j hj => by
          have := hc j hj
          rw [addr_add, addr_add] at this; exact this
        exact ⟨s, ⟨h3, h4⟩, u, g 0 (by omega), g 1 (by omega), h1, h2⟩
      obtain ⟨f, hfm⟩ := choose_lt each
      have hlen : ((List.range len).map f).length = len := by simp
      refine ⟨(List.range len).map f, ⟨some ⟨b, off, none⟩, m, by rw [hlen], .inr ⟨b, off, rfl, hb, fun j s hj => ?_⟩⟩, fun s hs => ?_, by rw [hlen]; exact hlr⟩
      · have hjl : j < len := by
          have := (List.getElem?_eq_some_iff.1 hj).1
          omega
        rw [List.getElem?_map, List.getElem?_range hjl] at hj
        simp only [Option.map_some, Option.some.injEq] at hj
        subst hj
        exact (hfm j hjl).2
      · obtain ⟨i, hi, rfl⟩ := List.mem_map.1 hs
        exact (hfm i (List.mem_range.1 hi)).1

theorem Try.cells33 : Try.prog.cellsOf 33 = 2 := by kernel_rfl
theorem Try.bytes33 : Try.prog.bytesOf 33 = 32 := by kernel_rfl

set_option maxRecDepth 100000 in
theorem open_row {H : Type} {enc : TypeId × Value → H} {W : World} {fuel : Nat} {cs : List Value} {y : DataW H × List MemPlace}
    (hf : DataW.trod enc Try.prog W 0 (fun _ => true) true fuel 33 cs = some y) (hsz : ∀ n ∈ y.1.weights Try.prog 33, n ≤ reachBytes) :
    ∃ (s : Shp) (u : Value), cs = [.int .i64 s.pred, u] ∧ IntsAt W W.heap.size u s.cells ∧ Nilly u ∧ Okay s ∧ s.cells.length ≤ 17592186044400 := by
  obtain ⟨xs, n, _, hx, hl, hlen, hg⟩ := DataW.trod_struct Try.underlying33 hf
  rw [Try.cells33] at hl
  match cs, hl with
  | [e0, e1], _ =>
    match xs, hlen with
    | [y0, y1], _ =>
      have f0 : DataW.trod enc Try.prog W 0 (fun _ => true) true n 3 [e0] = some y0 := by
        have := hg 0 _ rfl
        simpa [Try.cells3] using this
      have f1 : DataW.trod enc Try.prog W 0 (fun _ => true) true n 25 [e1] = some y1 := by
        have := hg 1 _ rfl
        simpa [Try.cells25] using this
      obtain ⟨p, hp, _, hpw⟩ := DataW.trod_int Try.underlying3 f0
      obtain ⟨u, l, hu, h1, h2, h3, h4⟩ := open_intlist f1 (fun n hn => hsz n (by rw [hx]; simp [DataW.weights, DataW.weightsEach, Try.underlying33, hn]))
      simp only [List.cons.injEq, and_true] at hp hu
      subst hp hu
      have hb := i64_bounds hpw
      exact ⟨⟨p, l⟩, e1, rfl, h1, h2, ⟨hb.1, hb.2, h3, by simp only; omega⟩, by simp only; omega⟩

set_option maxRecDepth 100000 in
theorem open_rows {H : Type} {enc : TypeId × Value → H} {W : World} {base : Nat} {v : Value} {d : DataW H} {p : List MemPlace} (hval : Value.okWide Try.prog W .any base 30 v)
    (h : DataW.Trod enc Try.prog W 0 (fun _ => true) true 30 v d p) (hsz : ∀ n ∈ d.weights Try.prog 30, n ≤ reachBytes) : ∃ ss, ShpsAt W W.heap.size v ss ∧ Okays ss ∧ ss.length ≤ 4398046510976 := by
  obtain ⟨a0, len, cap, rfl⟩ := okWide_slice Try.underlying30 hval
  obtain ⟨fuel, hf⟩ := h
  rcases open_slice Try.underlying30 hf with ⟨hcs, _⟩ | ⟨x, n, c, m, k, D, Pl, hcs, _, hl, hm, hmm, hx, hcell⟩
  · simp [Value.cells] at hcs
    obtain ⟨rfl, rfl, rfl⟩ := hcs
    exact ⟨[], ⟨none, 0, rfl, .inl rfl⟩, fun s hs => by simp at hs, by simp⟩
  · simp [Value.cells] at hcs
    obtain ⟨rfl, rfl, rfl⟩ := hcs
    simp only [if_true] at hmm
    subst hmm
    simp only [Prod.mk.injEq] at hx
    have hw : len * 32 ≤ reachBytes := by
      have := hsz ((len + (m - len)) * Try.prog.bytesOf 33) (by rw [hx.1]; simp [DataW.weights, Try.underlying30])
      rw [Try.bytes33] at this
      omega
    have hlr : len ≤ 4398046510976 := by simp only [reachBytes] at hw; omega
    have hD : ∀ i, i < len → ∀ n ∈ (D i).weights Try.prog 33, n ≤ reachBytes := fun i hi n hn => hsz n (by
      rw [hx.1]; unfold DataW.weights; rw [Try.underlying30]
      exact List.mem_cons_of_mem _ (List.mem_append.2 (.inl (mem_weightsAll (List.mem_map.2 ⟨i, List.mem_range.2 hi, rfl⟩) n hn))))
    clear hw hsz hx
    by_cases h0 : len = 0
    · subst h0
      exact ⟨[], ⟨some x, m, rfl, .inl rfl⟩, fun s hs => by simp at hs, by simp⟩
    · obtain ⟨b, off, sp⟩ := x
      have first : sp = none ∧ b < W.heap.size := by
        obtain ⟨cs', hc1, hc2⟩ := hcell 0 (by omega)
        rw [Try.cells33] at hc1
        obtain ⟨s, u, rfl, _⟩ := open_row hc2 (hD 0 (by omega))
        have hc := (World.cells?_some hc1).2.2 0 (by omega)
        have e : ((⟨b, off, sp⟩ : Addr).add (0 * 2)).add 0 = ⟨b, off, sp⟩ := by simp [Addr.add]
        rw [e] at hc
        exact ⟨World.cell?_spot hc, World.block_lt_of_cell? W _ hc⟩
      obtain ⟨rfl, hb⟩ := first
      have each : ∀ i, i < len → ∃ s : Shp, (Okay s ∧ s.cells.length ≤ 17592186044400) ∧ ∃ u, W.cell? ⟨b, off + i * 2, none⟩ = some (.int .i64 s.pred) ∧ W.cell? ⟨b, off + i * 2 + 1, none⟩ = some u ∧ IntsAt W W.heap.size u s.cells ∧ Nilly u := by
        intro i hi
        obtain ⟨cs', hc1, hc2⟩ := hcell i (by omega)
        rw [Try.cells33] at hc1
        obtain ⟨s, u, rfl, h1, h2, h3, h4⟩ := open_row hc2 (hD i hi)
        have hc := (World.cells?_some hc1).2.2
        have g : ∀ j, j < 2 → W.cell? ⟨b, off + i * 2 + j, none⟩ = [Value.int .i64 s.pred, u][j]? := fun j hj => by
          have := hc j hj
          rw [addr_add, addr_add] at this; exact this
        exact ⟨s, ⟨h3, h4⟩, u, g 0 (by omega), g 1 (by omega), h1, h2⟩
      obtain ⟨f, hfm⟩ := choose_lt each
      have hlen : ((List.range len).map f).length = len := by simp
      refine ⟨(List.range len).map f, ⟨some ⟨b, off, none⟩, m, by rw [hlen], .inr ⟨b, off, rfl, hb, fun j s hj => ?_⟩⟩, fun s hs => ?_, by rw [hlen]; exact hlr⟩
      · have hjl : j < len := by
          have := (List.getElem?_eq_some_iff.1 hj).1
          omega
        rw [List.getElem?_map, List.getElem?_range hjl] at hj
        simp only [Option.map_some, Option.some.injEq] at hj
        subst hj
        exact (hfm j hjl).2
      · obtain ⟨i, hi, rfl⟩ := List.mem_map.1 hs
        exact (hfm i (List.mem_range.1 hi)).1

end Go.Proofs.Ytlandkindbmbfaa
