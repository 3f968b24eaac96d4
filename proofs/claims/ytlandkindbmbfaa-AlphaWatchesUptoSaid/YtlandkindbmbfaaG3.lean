/-
  Texts of this seat, one behind the other: O1, W6, W7, W8, Plain3, K3. Conditions: those that each of them states.
-/
import Derived.Test.YtlandkindbmbfaaG2
import Derived.ProofKit
import Derived.SizedLaws
import Derived.OpenShut
import Derived.Deep.Slices
import Derived.StillTailTactics
import Derived.Test.YtlandkindbmbfaaG1
import Derived.Maps.OwnSet
import Derived.Maps.Views
/-
  Opening of arguments: slices of ints, shapes, rows of ids that came in, as the walks are told of them. No condition.
-/
namespace Go.Proofs.Ytlandkindbmbfaa
open Go.RowKit Plain Go.ChangeShapes Go.WideShapes Go.ChangeAt Go.Deep Go.Joins

theorem nat_u64 {z : Int} (h : (Lit.int .u64 z).wf = true) : ∃ n : Nat, z = (n : Int) ∧ n < 18446744073709551616 := by
  have h1 : IntKind.u64.min = 0 := rfl
  have h2 : IntKind.u64.max = 18446744073709551615 := rfl
  simp only [Lit.wf, Bool.and_eq_true, decide_eq_true_eq] at h
  exact ⟨z.toNat, by omega, by omega⟩
theorem i64_bounds {z : Int} (h : (Lit.int .i64 z).wf = true) : -9223372036854775808 ≤ z ∧ z ≤ 9223372036854775807 := by
  have h1 : IntKind.i64.min = -9223372036854775808 := rfl
  have h2 : IntKind.i64.max = 9223372036854775807 := rfl
  simp only [Lit.wf, Bool.and_eq_true, decide_eq_true_eq] at h
  omega

instance : Inhabited Shp := ⟨⟨0, []⟩⟩
theorem Try.cells3 : Try.prog.cellsOf 3 = 1 := by kernel_rfl
theorem Try.cells25 : Try.prog.cellsOf 25 = 1 := by kernel_rfl
theorem Try.bytes3 : Try.prog.bytesOf 3 = 8 := by kernel_rfl

set_option maxRecDepth 100000 in
theorem open_intlist {H : Type} {enc : TypeId × Value → H} {W : World} {fuel : Nat} {cs : List Value} {y : DataW H × List MemPlace}
    (hf : DataW.trod enc Try.prog W 0 (fun _ => true) true fuel 25 cs = some y) (hsz : ∀ n ∈ y.1.weights Try.prog 25, n ≤ reachBytes) :
    ∃ u l, cs = [u] ∧ IntsAt W W.heap.size u l ∧ Nilly u ∧ I64s l ∧ l.length ≤ 17592186043904 := by
  rcases open_ints Try.underlying25 Try.underlying3 Try.cells3 hf with ⟨hcs, _⟩ | ⟨x, len, cap, zs, hcs, _, hl, hm, hz, hx, hcell, hwz⟩
  · exact ⟨_, [], hcs, ⟨none, 0, rfl, .inl rfl⟩, fun n c e => by simp at e; omega, fun j => by simp [at'], by simp⟩
  · have hzl : zs.length = cap := by simpa using hz
    have hw : (len + (cap - len)) * 8 ≤ reachBytes := by
      have := hsz ((len + (cap - len)) * 8) (by rw [hx]; simp [DataW.weights, Try.underlying25, Try.bytes3, ChangeShapes.lits, hzl]; omega)
      exact this
    have hlen : (zs.take len).length = len := by simp; omega
    have hget : ∀ j, j < len → at' (zs.take len) j = zs.getD j 0 ∧ -9223372036854775808 ≤ zs.getD j 0 ∧ zs.getD j 0 ≤ 9223372036854775807 := by
      intro j hj
      have hjz : j < zs.length := by omega
      have hwf := i64_bounds (hwz zs[j] (List.getElem_mem hjz))
      unfold at'
      rw [List.getD_eq_getElem?_getD, List.getElem?_take, if_pos hj, List.getElem?_eq_getElem hjz]
      exact ⟨rfl, hwf.1, hwf.2⟩
    refine ⟨_, zs.take len, hcs, ⟨some x, cap, by rw [hlen], ?_⟩, fun n c e => by simp at e, ?_, ?_⟩
    · by_cases h0 : len = 0
      · left; subst h0; simp
      · right
        obtain ⟨b, off, spot⟩ := x
        have hc0 := hcell 0 (by omega)
        have hspot : spot = none := by simpa [Addr.add] using World.cell?_spot hc0
        subst hspot
        refine ⟨b, off, rfl, ?_, fun j hj => ?_⟩
        · exact World.block_lt_of_cell? W _ hc0
        · rw [hlen] at hj
          have hcj := hcell j (by omega)
          rw [addr_add] at hcj
          rw [hcj, (hget j hj).1]
    · intro j
      by_cases hj : j < len
      · obtain ⟨g1, g2, g3⟩ := hget j hj
        rw [g1]; omega
      · unfold at'
        rw [List.getElem?_eq_none (by omega)]; simp
    · rw [hlen]; simp only [reachBytes] at hw; omega

theorem mem_weightsAll {H : Type} {P : Program} {e : TypeId} : ∀ {ds : List (DataW H)} {d : DataW H}, d ∈ ds → ∀ n ∈ d.weights P e, n ∈ DataW.weightsAll P e ds
  | [], _, h, _, _ => by simp at h
  | x :: ds, d, h, n, hn => by
    unfold DataW.weightsAll
    rcases List.mem_cons.1 h with rfl | h
    · exact List.mem_append.2 (.inl hn)
    · exact List.mem_append.2 (.inr (mem_weightsAll h n hn))

theorem Try.cells27 : Try.prog.cellsOf 27 = 2 := by kernel_rfl
theorem Try.bytes27 : Try.prog.bytesOf 27 = 32 := by kernel_rfl

set_option maxRecDepth 100000 in
theorem open_shape {H : Type} {enc : TypeId × Value → H} {W : World} {fuel : Nat} {cs : List Value} {y : DataW H × List MemPlace}
    (hf : DataW.trod enc Try.prog W 0 (fun _ => true) true fuel 27 cs = some y) (hsz : ∀ n ∈ y.1.weights Try.prog 27, n ≤ reachBytes) :
    ∃ (s : Shp) (u : Value), cs = [.int .i64 s.pred, u] ∧ IntsAt W W.heap.size u s.cells ∧ Nilly u ∧ Okay s ∧ s.cells.length ≤ 17592186044400 := by
  obtain ⟨xs, n, _, hx, hl, hlen, hg⟩ := DataW.trod_struct Try.underlying27 hf
  rw [Try.cells27] at hl
  match cs, hl with
  | [e0, e1], _ =>
    match xs, hlen with
    | [y0, y1], _ =>
      have f0 : DataW.trod enc Try.prog W 0 (fun _ => true) true n 3 [e0] = some y0 := by
        have := hg 0 _ rfl
        simpa [Try.cells3] using this
      have f1 : DataW.trod enc Try.prog W 0 (fun _ => true) true n 25 [e1] = some y1 := by
        have := hg 1 _ rfl
        simpa [Try.cells25] using this
      obtain ⟨p, hp, _, hpw⟩ := DataW.trod_int Try.underlying3 f0
      obtain ⟨u, l, hu, h1, h2, h3, h4⟩ := open_intlist f1 (fun n hn => hsz n (by rw [hx]; simp [DataW.weights, DataW.weightsEach, Try.underlying27, hn]))
      simp only [List.cons.injEq, and_true] at hp hu
      subst hp hu
      have hb := i64_bounds hpw
      exact ⟨⟨p, l⟩, e1, rfl, h1, h2, ⟨hb.1, hb.2, h3, by simp only; omega⟩, by simp only; omega⟩

set_option maxRecDepth 100000 in
theorem open_shapes {H : Type} {enc : TypeId × Value → H} {W : World} {base : Nat} {v : Value} {d : DataW H} {p : List MemPlace} (hval : Value.okWide Try.prog W .any base 22 v)
    (h : DataW.Trod enc Try.prog W 0 (fun _ => true) true 22 v d p) (hsz : ∀ n ∈ d.weights Try.prog 22, n ≤ reachBytes) : ∃ ss, ShpsAt W W.heap.size v ss ∧ Okays ss ∧ ss.length ≤ 4398046510976 := by
  obtain ⟨a0, len, cap, rfl⟩ := okWide_slice Try.underlying22 hval
  obtain ⟨fuel, hf⟩ := h
  rcases open_slice Try.underlying22 hf with ⟨hcs, _⟩ | ⟨x, n, c, m, k, D, Pl, hcs, _, hl, hm, hmm, hx, hcell⟩
  · simp [Value.cells] at hcs
    obtain ⟨rfl, rfl, rfl⟩ := hcs
    exact ⟨[], ⟨none, 0, rfl, .inl rfl⟩, fun s hs => by simp at hs, by simp⟩
  · simp [Value.cells] at hcs
    obtain ⟨rfl, rfl, rfl⟩ := hcs
    simp only [if_true] at hmm
    subst hmm
    simp only [Prod.mk.injEq] at hx
    have hw : len * 32 ≤ reachBytes := by
      have := hsz ((len + (m - len)) * Try.prog.bytesOf 27) (by rw [hx.1]; simp [DataW.weights, Try.underlying22])
      rw [Try.bytes27] at this
      omega
    have hlr : len ≤ 4398046510976 := by simp only [reachBytes] at hw; omega
    have hD : ∀ i, i < len → ∀ n ∈ (D i).weights Try.prog 27, n ≤ reachBytes := fun i hi n hn => hsz n (by
      rw [hx.1]; unfold DataW.weights; rw [Try.underlying22]
      exact List.mem_cons_of_mem _ (List.mem_append.2 (.inl (mem_weightsAll (List.mem_map.2 ⟨i, List.mem_range.2 hi, rfl⟩) n hn))))
    clear hw hsz hx
    by_cases h0 : len = 0
    · subst h0
      exact ⟨[], ⟨some x, m, rfl, .inl rfl⟩, fun s hs => by simp at hs, by simp⟩
    · obtain ⟨b, off, sp⟩ := x
      have first : sp = none ∧ b < W.heap.size := by
        obtain ⟨cs', hc1, hc2⟩ := hcell 0 (by omega)
        rw [Try.cells27] at hc1
        obtain ⟨s, u, rfl, _⟩ := open_shape hc2 (hD 0 (by omega))
        have hc := (World.cells?_some hc1).2.2 0 (by omega)
        have e : ((⟨b, off, sp⟩ : Addr).add (0 * 2)).add 0 = ⟨b, off, sp⟩ := by simp [Addr.add]
        rw [e] at hc
        exact ⟨World.cell?_spot hc, World.block_lt_of_cell? W _ hc⟩
      obtain ⟨rfl, hb⟩ := first
      have each : ∀ i, i < len → ∃ s : Shp, (Okay s ∧ s.cells.length ≤ 17592186044400) ∧ ∃ u, W.cell? ⟨b, off + i * 2, none⟩ = some (.int .i64 s.pred) ∧ W.cell? ⟨b, off + i * 2 + 1, none⟩ = some u ∧ IntsAt W W.heap.size u s.cells ∧ Nilly u := by
        intro i hi
        obtain ⟨cs', hc1, hc2⟩ := hcell i (by omega)
        rw [Try.cells27] at hc1
        obtain ⟨s, u, rfl, h1, h2, h3, h4⟩ := open_shape hc2 (hD i hi)
        have hc := (World.cells?_some hc1).2.2
        have g : ∀ j, j < 2 → W.cell? ⟨b, off + i * 2 + j, none⟩ = [Value.int .i64 s.pred, u][j]? := fun j hj => by
          have := hc j hj
          rw [addr_add, addr_add] at this; exact this
        exact ⟨s, ⟨h3, h4⟩, u, g 0 (by omega), g 1 (by omega), h1, h2⟩
      obtain ⟨f, hfm⟩ := choose_lt each
      have hlen : ((List.range len).map f).length = len := by simp
      refine ⟨(List.range len).map f, ⟨some ⟨b, off, none⟩, m, by rw [hlen], .inr ⟨b, off, rfl, hb, fun j s hj => ?_⟩⟩, fun s hs => ?_, by rw [hlen]; exact hlr⟩
      · have hjl : j < len := by
          have := (List.getElem?_eq_some_iff.1 hj).1
          omega
        rw [List.getElem?_map, List.getElem?_range hjl] at hj
        simp only [Option.map_some, Option.some.injEq] at hj
        subst hj
        exact (hfm j hjl).2
      · obtain ⟨i, hi, rfl⟩ := List.mem_map.1 hs
        exact (hfm i (List.mem_range.1 hi)).1

theorem Try.cells33 : Try.prog.cellsOf 33 = 2 := by kernel_rfl
theorem Try.bytes33 : Try.prog.bytesOf 33 = 32 := by kernel_rfl

set_option maxRecDepth 100000 in
theorem open_row {H : Type} {enc : TypeId × Value → H} {W : World} {fuel : Nat} {cs : List Value} {y : DataW H × List MemPlace}
    (hf : DataW.trod enc Try.prog W 0 (fun _ => true) true fuel 33 cs = some y) (hsz : ∀ n ∈ y.1.weights Try.prog 33, n ≤ reachBytes) :
    ∃ (s : Shp) (u : Value), cs = [.int .i64 s.pred, u] ∧ IntsAt W W.heap.size u s.cells ∧ Nilly u ∧ Okay s ∧ s.cells.length ≤ 17592186044400 := by
  obtain ⟨xs, n, _, hx, hl, hlen, hg⟩ := DataW.trod_struct Try.underlying33 hf
  rw [Try.cells33] at hl
  match cs, hl with
  | [e0, e1], _ =>
    match xs, hlen with
    | [y0, y1], _ =>
      have f0 : DataW.trod enc Try.prog W 0 (fun _ => true) true n 3 [e0] = some y0 := by
        have := hg 0 _ rfl
        simpa [Try.cells3] using this
      have f1 : DataW.trod enc Try.prog W 0 (fun _ => true) true n 25 [e1] = some y1 := by
        have := hg 1 _ rfl
        simpa [Try.cells25] using this
      obtain ⟨p, hp, _, hpw⟩ := DataW.trod_int Try.underlying3 f0
      obtain ⟨u, l, hu, h1, h2, h3, h4⟩ := open_intlist f1 (fun n hn => hsz n (by rw [hx]; simp [DataW.weights, DataW.weightsEach, Try.underlying33, hn]))
      simp only [List.cons.injEq, and_true] at hp hu
      subst hp hu
      have hb := i64_bounds hpw
      exact ⟨⟨p, l⟩, e1, rfl, h1, h2, ⟨hb.1, hb.2, h3, by simp only; omega⟩, by simp only; omega⟩

set_option maxRecDepth 100000 in
theorem open_rows {H : Type} {enc : TypeId × Value → H} {W : World} {base : Nat} {v : Value} {d : DataW H} {p : List MemPlace} (hval : Value.okWide Try.prog W .any base 30 v)
    (h : DataW.Trod enc Try.prog W 0 (fun _ => true) true 30 v d p) (hsz : ∀ n ∈ d.weights Try.prog 30, n ≤ reachBytes) : ∃ ss, ShpsAt W W.heap.size v ss ∧ Okays ss ∧ ss.length ≤ 4398046510976 := by
  obtain ⟨a0, len, cap, rfl⟩ := okWide_slice Try.underlying30 hval
  obtain ⟨fuel, hf⟩ := h
  rcases open_slice Try.underlying30 hf with ⟨hcs, _⟩ | ⟨x, n, c, m, k, D, Pl, hcs, _, hl, hm, hmm, hx, hcell⟩
  · simp [Value.cells] at hcs
    obtain ⟨rfl, rfl, rfl⟩ := hcs
    exact ⟨[], ⟨none, 0, rfl, .inl rfl⟩, fun s hs => by simp at hs, by simp⟩
  · simp [Value.cells] at hcs
    obtain ⟨rfl, rfl, rfl⟩ := hcs
    simp only [if_true] at hmm
    subst hmm
    simp only [Prod.mk.injEq] at hx
    have hw : len * 32 ≤ reachBytes := by
      have := hsz ((len + (m - len)) * Try.prog.bytesOf 33) (by rw [hx.1]; simp [DataW.weights, Try.underlying30])
      rw [Try.bytes33] at this
      omega
    have hlr : len ≤ 4398046510976 := by simp only [reachBytes] at hw; omega
    have hD : ∀ i, i < len → ∀ n ∈ (D i).weights Try.prog 33, n ≤ reachBytes := fun i hi n hn => hsz n (by
      rw [hx.1]; unfold DataW.weights; rw [Try.underlying30]
      exact List.mem_cons_of_mem _ (List.mem_append.2 (.inl (mem_weightsAll (List.mem_map.2 ⟨i, List.mem_range.2 hi, rfl⟩) n hn))))
    clear hw hsz hx
    by_cases h0 : len = 0
    · subst h0
      exact ⟨[], ⟨some x, m, rfl, .inl rfl⟩, fun s hs => by simp at hs, by simp⟩
    · obtain ⟨b, off, sp⟩ := x
      have first : sp = none ∧ b < W.heap.size := by
        obtain ⟨cs', hc1, hc2⟩ := hcell 0 (by omega)
        rw [Try.cells33] at hc1
        obtain ⟨s, u, rfl, _⟩ := open_row hc2 (hD 0 (by omega))
        have hc := (World.cells?_some hc1).2.2 0 (by omega)
        have e : ((⟨b, off, sp⟩ : Addr).add (0 * 2)).add 0 = ⟨b, off, sp⟩ := by simp [Addr.add]
        rw [e] at hc
        exact ⟨World.cell?_spot hc, World.block_lt_of_cell? W _ hc⟩
      obtain ⟨rfl, hb⟩ := first
      have each : ∀ i, i < len → ∃ s : Shp, (Okay s ∧ s.cells.length ≤ 17592186044400) ∧ ∃ u, W.cell? ⟨b, off + i * 2, none⟩ = some (.int .i64 s.pred) ∧ W.cell? ⟨b, off + i * 2 + 1, none⟩ = some u ∧ IntsAt W W.heap.size u s.cells ∧ Nilly u := by
        intro i hi
        obtain ⟨cs', hc1, hc2⟩ := hcell i (by omega)
        rw [Try.cells33] at hc1
        obtain ⟨s, u, rfl, h1, h2, h3, h4⟩ := open_row hc2 (hD i hi)
        have hc := (World.cells?_some hc1).2.2
        have g : ∀ j, j < 2 → W.cell? ⟨b, off + i * 2 + j, none⟩ = [Value.int .i64 s.pred, u][j]? := fun j hj => by
          have := hc j hj
          rw [addr_add, addr_add] at this; exact this
        exact ⟨s, ⟨h3, h4⟩, u, g 0 (by omega), g 1 (by omega), h1, h2⟩
      obtain ⟨f, hfm⟩ := choose_lt each
      have hlen : ((List.range len).map f).length = len := by simp
      refine ⟨(List.range len).map f, ⟨some ⟨b, off, none⟩, m, by rw [hlen], .inr ⟨b, off, rfl, hb, fun j s hj => ?_⟩⟩, fun s hs => ?_, by rw [hlen]; exact hlr⟩
      · have hjl : j < len := by
          have := (List.getElem?_eq_some_iff.1 hj).1
          omega
        rw [List.getElem?_map, List.getElem?_range hjl] at hj
        simp only [Option.map_some, Option.some.injEq] at hj
        subst hj
        exact (hfm j hjl).2
      · obtain ⟨i, hi, rfl⟩ := List.mem_map.1 hs
        exact (hfm i (List.mem_range.1 hi)).1

end Go.Proofs.Ytlandkindbmbfaa
/-
  The walk of edictlaw10.shapesOf: the same shapes, with lists of their own. Conditions: the lists are within the form's own reach.
-/
namespace Go.Proofs.Ytlandkindbmbfaa
open Go.RowKit Plain
attribute [local go_sem ↓] Go.wp_at_zero Go.wp_at_succ

theorem Try.info27 : (Try.prog.info? 27).map (fun i => (i.zero, i.size, i.bytes)) = some (some (.agg #[.int .i64 0, .slice none 0 0]), 2, 32) := by kernel_rfl

theorem one_shape (p : Int) {w : World} {B : Nat} {u : Value} {l : List Int} (h : OwnInts w B u l) : ∀ x ∈ [Value.int .i64 p, u], x.oneCell' = true := by
  intro x hx
  simp only [List.mem_cons, List.not_mem_nil, or_false] at hx
  rcases hx with rfl | rfl
  · rfl
  · rcases Joins.ownsRow_forms h with ⟨rfl, _⟩ | ⟨g, cap, rfl⟩ <;> rfl

theorem form_of {w : World} {B : Nat} {e : TypeId} {size : Nat} {v : Value} {n : Nat} {xs : List Value} (h : w.ownsRow B e size v n xs) (hn : v ≠ .slice none 0 0) : ∃ g c, v = .slice (some ⟨g, 0, none⟩) n c := by
  rcases Joins.ownsRow_forms h with ⟨rfl, _⟩ | ⟨g, cap, rfl⟩
  · exact absurd rfl hn
  · exact ⟨g, cap, rfl⟩

def OwnIs (ss : List Shp) (w : World) (e : Ending) (w' : World) : Prop := ∃ v, e = .returned v ∧ OwnShps w' w.heap.size v ss ∧ Below w.heap.size w w'

theorem take_snoc {ss : List Shp} {i : Nat} {s : Shp} (h : ss[i]? = some s) : ss.take (i + 1) = ss.take i ++ [s] := by
  rw [List.take_add_one, h]; rfl

set_option maxRecDepth 100000 in
set_option maxHeartbeats 3200000 in
theorem shapesOf_any (ss : List Shp) (v : Value) (w : World) (hv : ShpsAt w w.heap.size v ss) (hs : Okays ss) (hn : ss.length ≤ 4398046510976) :
    Calls Try.prog 13 #[v] w (OwnIs ss w) := by
  obtain ⟨i3, qi, q0, q1, q2⟩ := info_parts Try.info3
  obtain ⟨i27, pi, p0, p1, p2⟩ := info_parts Try.info27
  obtain ⟨a, cap, rfl, ha⟩ := hv
  have HA := Lib.hid ha
  clear ha
  go_enter Try.func13, Try.ntmps13
  go_wp2
  go_loopw [3, 4] (fun v k wr => ∃ (o : Value) (i : Nat), o = v ∧ k = .int .i64 (i : Int) ∧ i ≤ ss.length ∧ OwnShps wr w.heap.size o (ss.take i) ∧ Below w.heap.size w wr) (fun _ k _ => ss.length - (intOf k).toNat)
  case atStart => exact ⟨_, 0, rfl, rfl, Nat.zero_le _, OwnShps.nil _ _, Below.refl _ _⟩
  case round =>
    obtain ⟨v, i, rfl, rfl, hil, hown, hnx⟩ := hrel
    have hsz := hnx.size
    have NX := Lib.hid hnx
    clear hnx
    by_cases h1 : i < ss.length
    · obtain ⟨g, off, rfl, hg, hc⟩ := HA.out.resolve_left (fun e => by rw [e] at h1; simp at h1)
      obtain ⟨s, hsi⟩ : ∃ s, ss[i]? = some s := ⟨ss[i]'h1, List.getElem?_eq_getElem h1⟩
      obtain ⟨u, hc0, hc1, hu, hnil⟩ := hc i s hsi
      have hok := hs s (List.mem_of_getElem? hsi)
      have hsl := hok.2
      have c0 := below_cells NX.out (by simpa using hg) hc0
      have c1 := below_cells NX.out (by simpa using hg) hc1
      have hur : IntsAt wr w.heap.size u s.cells := hu.below NX.out
      have TS := Lib.hid (take_snoc hsi)
      obtain ⟨vs, hvl, ho, hoi⟩ := hown
      have hti : (ss.take i).length = i := by rw [List.length_take]; omega
      rw [hti] at ho hvl
      have h3 : (i : Int) < (ss.length : Int) := by omega
      have h4 : (0 : Int) ≤ (i : Int) := Int.natCast_nonneg _
      have HI := Lib.hid hoi
      have HU := Lib.hid hur
      clear hc hc0 hc1 hoi hu hur hsi hok
      obtain ⟨au, cu, hue, _⟩ := HU.out
      subst hue
      rcases au with _ | ad
      · obtain ⟨e1, e2⟩ := hnil _ _ rfl
        have hu0 : s.cells = [] := List.length_eq_zero_iff.1 e1
        obtain rfl := e2
        have H0 := Lib.hid hu0
        rw [e1] at c1
        have k0 : (wr.alloc (.cells #[] 3)).cell? ⟨g, off + i * 2, none⟩ = some (.int .i64 s.pred) := (World.cell?_alloc_past _ _ _ (show g < _ by first | omega | (simp; omega))).trans c0
        have k1 : (wr.alloc (.cells #[] 3)).cell? ⟨g, off + i * 2 + 1, none⟩ = some (.slice none 0 0) := (World.cell?_alloc_past _ _ _ (show g < _ by first | omega | (simp; omega))).trans c1
        have hm1 : (wr.alloc (.cells #[] 3)).ownsRow w.heap.size 27 2 v i (flat (ss.take i) vs) := World.ownsRow.alloc ho _
        have hu1 : OwnInts (wr.alloc (.cells #[] 3)) w.heap.size (.slice (some ⟨wr.heap.size, 0, none⟩) 0 0) s.cells := by rw [H0.out]; exact World.ownsRow_made wr #[] 0 hsz (by decide) rfl
        have hone1 := one_shape s.pred hu1
        have hs1 : w.heap.size ≤ (wr.alloc (.cells #[] 3)).heap.size := by simp; omega
        have hz1 : (wr.alloc (.cells #[] 3)).heap.size = wr.heap.size + 1 := by simp
        clear hnil e1
        go_wp2_with fail
        go_region_held3 (fun w' => w'.cell? ⟨g, off + i * 2, none⟩ = some (.int .i64 s.pred) ∧ w'.cell? ⟨g, off + i * 2 + 1, none⟩ = some (.slice none 0 0)) (first | exact ⟨c0, c1⟩ | exact ⟨k0, k1⟩ | exact ⟨(World.cell?_alloc_past _ _ _ (show g < _ by first | omega | (simp; omega))).trans k0, (World.cell?_alloc_past _ _ _ (show g < _ by first | omega | (simp; omega))).trans k1⟩ | go_keep)
          (first
            | (refine step_append_own_none _ (by rfl) _ _ 25 (by rfl) w.heap.size 3 i3 1 Try.underlying25 qi (.slice (some ⟨wr.heap.size, 0, none⟩) 0 0) 0 [] (by rfl) (by exact World.ownsRow_made wr #[] 0 hsz (by decide) rfl) (by rfl) ?_)
            | (refine step_append_own _ (by rfl) _ _ 22 (by rfl) w.heap.size 27 i27 (.agg #[.int .i64 0, .slice none 0 0]) 2 32 Try.underlying22 pi p0 p1 p2 rfl (by decide) v i (flat (ss.take i) vs) (by rfl) (by exact hm1.alloc _) ⟨wr.heap.size + 1, 0, none⟩ 1 1 [.int .i64 s.pred, .slice (some ⟨wr.heap.size, 0, none⟩) 0 0] (by rfl) (by rfl) (World.news_of_block (cs := #[.int .i64 s.pred, .slice (some ⟨wr.heap.size, 0, none⟩) 0 0]) (t := 27) (fr := (0, 0)) (by rw [← hz1]; exact heap_alloc_new _ _)) hone1 (by unfold maxLen; omega) (by omega) (by simp; omega) ?_; intro v2 w2 hown2 hgrow2 hnil2; have hgrow2' : ((wr.alloc (.cells #[] 3)).alloc (.cells #[.int .i64 s.pred, .slice (some ⟨wr.heap.size, 0, none⟩) 0 0] 27)).grownBy w2 v.ownBlock := ⟨hgrow2.os, hgrow2.tape, hgrow2.output, hgrow2.size, hgrow2.block⟩; have k0 := hgrow2'.cell (a := ⟨g, off + i * 2, none⟩) (World.cell?_alloc_past _ _ _ (show g < _ by first | omega | (simp; omega)) |>.trans k0) (by intro e; have := (ho.lt g e.symm).1; omega); have k1 := hgrow2'.cell (a := ⟨g, off + i * 2 + 1, none⟩) (World.cell?_alloc_past _ _ _ (show g < _ by first | omega | (simp; omega)) |>.trans k1) (by intro e; have := (ho.lt g e.symm).1; omega)))
        have HK := Lib.hid (fun (j : Nat) (t : Shp) (x : Value) (e1 : (ss.take i)[j]? = some t) (e2 : vs[j]? = some x) => (World.ownsRow.alloc (HI.out j t x e1 e2) (.cells #[] 3) : OwnInts (wr.alloc (.cells #[] 3)) w.heap.size x t.cells))
        have hb1 : Below w.heap.size w (wr.alloc (.cells #[] 3)) := NX.out.alloc hsz _
        go_wp2
        have hsn := OwnShps.snoc (v := v) (s := s) (vs := vs) (ss := ss.take i) (by rw [hti]; exact hvl) (by rw [hti]; exact World.ownsRow.alloc hm1 (.cells #[.int .i64 s.pred, .slice (some ⟨wr.heap.size, 0, none⟩) 0 0] 27)) (fun j t x e1 e2 => World.ownsRow.alloc (HK.out j t x e1 e2) _) (hu1.alloc _) (by rw [hti]; exact hown2) hgrow2'
        rw [← TS.out] at hsn
        have hbl : Below w.heap.size w w2 := (hb1.alloc hs1 _).grown hgrow2' (by simp; omega) (fun k hk => (hm1.lt k hk).1)
        go_roundw
        case rel => exact ⟨_, i + 1, rfl, by go_num, by omega, hsn, hbl⟩
        case measure => simp only [intOf]; omega
      · have HNW := Lib.hid ((HU.out.alloc hsz (.cells #[] 3)).news)
        have k0 : (wr.alloc (.cells #[] 3)).cell? ⟨g, off + i * 2, none⟩ = some (.int .i64 s.pred) := (World.cell?_alloc_past _ _ _ (show g < _ by first | omega | (simp; omega))).trans c0
        have k1 : (wr.alloc (.cells #[] 3)).cell? ⟨g, off + i * 2 + 1, none⟩ = some (.slice (some ad) s.cells.length cu) := (World.cell?_alloc_past _ _ _ (show g < _ by first | omega | (simp; omega))).trans c1
        go_wp2_with fail
        go_region_held3 (fun w' => w'.cell? ⟨g, off + i * 2, none⟩ = some (.int .i64 s.pred) ∧ w'.cell? ⟨g, off + i * 2 + 1, none⟩ = some (.slice (some ad) s.cells.length cu)) (first | exact ⟨c0, c1⟩ | exact ⟨k0, k1⟩ | exact ⟨(World.cell?_alloc_past _ _ _ (show g < _ by first | omega | (simp; omega))).trans k0, (World.cell?_alloc_past _ _ _ (show g < _ by first | omega | (simp; omega))).trans k1⟩ | go_keep)
          (first
            | (refine step_append_own _ (by rfl) _ _ 25 (by rfl) w.heap.size 3 i3 (.int .i64 0) 1 8 Try.underlying25 qi q0 q1 q2 rfl (by decide) (.slice (some ⟨wr.heap.size, 0, none⟩) 0 0) 0 [] (by rfl) (by exact World.ownsRow_made wr #[] 0 hsz (by decide) rfl) ad s.cells.length cu (lits s.cells) (by rfl) (by rw [lits_length, Nat.mul_one]) (by exact HNW.out) (lits_one _) (by unfold maxLen; omega) (by omega) (by simp; omega) ?_; intro u1 w1 hown1 hgrow1 hnil1; obtain ⟨gu, cu1, rfl⟩ := form_of hown1 (fun e => by have := (hnil1.1 e).1; simp at this); simp only [Nat.zero_add, List.nil_append] at hown1 ⊢; have hgrow1' : (wr.alloc (.cells #[] 3)).grownBy w1 (some wr.heap.size) := ⟨hgrow1.os, hgrow1.tape, hgrow1.output, hgrow1.size, hgrow1.block⟩; have k0 := hgrow1'.cell k0 (by simp; omega); have k1 := hgrow1'.cell k1 (by simp; omega); have hm1 : w1.ownsRow w.heap.size 27 2 v i (flat (ss.take i) vs) := World.ownsRow.kept (World.ownsRow.alloc ho (.cells #[] 3)) hgrow1' (lt_of_own ho (.inr ⟨_, rfl, Nat.le_refl _⟩)); have hu1 : OwnInts w1 w.heap.size (.slice (some ⟨gu, 0, none⟩) s.cells.length cu1) s.cells := hown1; have hone1 := one_shape s.pred hu1; have hs1 : w.heap.size ≤ w1.heap.size := (by have := hgrow1'.size; simp at this; omega))
            | (refine step_append_own _ (by rfl) _ _ 22 (by rfl) w.heap.size 27 i27 (.agg #[.int .i64 0, .slice none 0 0]) 2 32 Try.underlying22 pi p0 p1 p2 rfl (by decide) v i (flat (ss.take i) vs) (by rfl) (by exact hm1.alloc _) ⟨w1.heap.size, 0, none⟩ 1 1 [.int .i64 s.pred, (.slice (some ⟨gu, 0, none⟩) s.cells.length cu1)] (by rfl) (by rfl) (World.news_of_block (cs := #[.int .i64 s.pred, (.slice (some ⟨gu, 0, none⟩) s.cells.length cu1)]) (t := 27) (fr := (0, 0)) (heap_alloc_new w1 _)) hone1 (by unfold maxLen; omega) (by omega) (by simp; omega) ?_; intro v2 w2 hown2 hgrow2 hnil2; have hgrow2' : (w1.alloc (.cells #[.int .i64 s.pred, (.slice (some ⟨gu, 0, none⟩) s.cells.length cu1)] 27)).grownBy w2 v.ownBlock := ⟨hgrow2.os, hgrow2.tape, hgrow2.output, hgrow2.size, hgrow2.block⟩; have k0 := hgrow2'.cell (a := ⟨g, off + i * 2, none⟩) (World.cell?_alloc_past _ _ _ (show g < _ by first | omega | (simp; omega)) |>.trans k0) (by intro e; have := (ho.lt g e.symm).1; omega); have k1 := hgrow2'.cell (a := ⟨g, off + i * 2 + 1, none⟩) (World.cell?_alloc_past _ _ _ (show g < _ by first | omega | (simp; omega)) |>.trans k1) (by intro e; have := (ho.lt g e.symm).1; omega)))
        have HK := Lib.hid (fun (j : Nat) (t : Shp) (x : Value) (e1 : (ss.take i)[j]? = some t) (e2 : vs[j]? = some x) => (World.ownsRow.kept (World.ownsRow.alloc (HI.out j t x e1 e2) (.cells #[] 3)) hgrow1' (lt_of_own (HI.out j t x e1 e2) (.inr ⟨_, rfl, Nat.le_refl _⟩)) : OwnInts w1 w.heap.size x t.cells))
        have hb1 : Below w.heap.size w w1 := (NX.out.alloc hsz _).grown hgrow1' (by simp; omega) (fun k hk => by simp at hk; omega)
        go_wp2
        have hsn := OwnShps.snoc (v := v) (s := s) (vs := vs) (ss := ss.take i) (by rw [hti]; exact hvl) (by rw [hti]; exact World.ownsRow.alloc hm1 (.cells #[.int .i64 s.pred, (.slice (some ⟨gu, 0, none⟩) s.cells.length cu1)] 27)) (fun j t x e1 e2 => World.ownsRow.alloc (HK.out j t x e1 e2) _) (hu1.alloc _) (by rw [hti]; exact hown2) hgrow2'
        rw [← TS.out] at hsn
        have hbl : Below w.heap.size w w2 := (hb1.alloc hs1 _).grown hgrow2' (by simp; omega) (fun k hk => (hm1.lt k hk).1)
        go_roundw
        case rel => exact ⟨_, i + 1, rfl, by go_num, by omega, hsn, hbl⟩
        case measure => simp only [intOf]; omega
    · have e : i = ss.length := by omega
      have HO := Lib.hid (show OwnShps wr w.heap.size v ss by rw [e, List.take_length] at hown; exact hown)
      clear e hown
      go_wp2
      go_ret
      exact ⟨_, rfl, HO.out, NX.out⟩

end Go.Proofs.Ytlandkindbmbfaa
/-
  The walk of edictlaw10.shapes at two lists that read as the same shapes: it answers true. Conditions: the lists are within the form's own reach.
-/
namespace Go.Proofs.Ytlandkindbmbfaa
open Go.RowKit Plain

theorem sameB_refl (s : Shp) : sameB s s = true := by unfold sameB; simp
theorem Below.drew {B : Nat} {a w : World} (h : Below B a w) : Below B a w.drew := ⟨h.os, h.tape, h.output, h.size, h.block⟩

/-- One shape out of a list. -/
theorem ShpsAt.get {w : World} {B g off c : Nat} {n : Nat} {ss : List Shp} (h : ShpsAt w B (.slice (some ⟨g, off, none⟩) n c) ss) {i : Nat} {s : Shp} (hs : ss[i]? = some s) :
    g < B ∧ ∃ u, w.cell? ⟨g, off + i * 2, none⟩ = some (.int .i64 s.pred) ∧ w.cell? ⟨g, off + i * 2 + 1, none⟩ = some u ∧ IntsAt w B u s.cells ∧ Nilly u := by
  obtain ⟨a, cap, e, h⟩ := h
  simp only [Value.slice.injEq] at e
  obtain ⟨rfl, rfl, rfl⟩ := e
  rcases h with rfl | ⟨g', off', h1, hg, hc⟩
  · simp at hs
  · simp only [Option.some.injEq, Addr.mk.injEq, and_true] at h1
    obtain ⟨rfl, rfl⟩ := h1
    exact ⟨hg, hc i s hs⟩
theorem ShpsAt.form {w : World} {B : Nat} {v : Value} {ss : List Shp} (h : ShpsAt w B v ss) : ∃ a c, v = .slice a ss.length c ∧ (ss ≠ [] → ∃ g off, a = some ⟨g, off, none⟩) := by
  obtain ⟨a, cap, rfl, h⟩ := h
  refine ⟨a, cap, rfl, fun hn => ?_⟩
  obtain ⟨g, off, h1, _⟩ := h.resolve_left hn
  exact ⟨g, off, h1⟩
theorem ne_of_lt_len {α : Type} {l : List α} {i : Nat} (h : i < l.length) : l ≠ [] := fun e => by rw [e] at h; simp at h

set_option maxRecDepth 100000 in
set_option maxHeartbeats 1600000 in
theorem shapes_same (ss : List Shp) (v u : Value) (w : World) (hv : ShpsAt w w.heap.size v ss) (hu : ShpsAt w w.heap.size u ss) (hs : Okays ss) (hn : ss.length ≤ 4398046510976) :
    Calls Try.prog 16 #[v, u] w (BoolIs w true) := by
  obtain ⟨a, ca, rfl, ha⟩ := hv.form
  obtain ⟨b, cb, rfl, hb⟩ := hu.form
  have HV := Lib.hid hv
  have HU := Lib.hid hu
  have HA := Lib.hid ha
  have HB := Lib.hid hb
  have hne : ((ss.length : Int) != (ss.length : Int)) = false := by simp
  clear hv hu ha hb
  go_enter Try.func16, Try.ntmps16
  go_wp2
  clear hne
  go_loopw [5] (fun k wr => ∃ i : Nat, k = .int .i64 (i : Int) ∧ i ≤ ss.length ∧ Below w.heap.size w wr) (fun k _ => ss.length - (intOf k).toNat)
  case atStart => exact ⟨0, rfl, Nat.zero_le _, Below.refl _ _⟩
  case round =>
    obtain ⟨i, rfl, hil, hnx⟩ := hrel
    have hsz := hnx.size
    have NX := Lib.hid hnx
    clear hnx
    by_cases h1 : i < ss.length
    · obtain ⟨g, off, rfl⟩ := HA.out (ne_of_lt_len h1)
      obtain ⟨g2, off2, rfl⟩ := HB.out (ne_of_lt_len h1)
      obtain ⟨s, hsi⟩ : ∃ s, ss[i]? = some s := ⟨ss[i]'h1, List.getElem?_eq_getElem h1⟩
      obtain ⟨hg, x, c0, c1, hx, _⟩ := ShpsAt.get (HV.out.below NX.out) hsi
      obtain ⟨hg2, y, d0, d1, hy, _⟩ := ShpsAt.get (HU.out.below NX.out) hsi
      have hok := hs s (List.mem_of_getElem? hsi)
      have HX := Lib.hid (hx.mono hsz)
      have HY := Lib.hid (hy.mono hsz)
      have HOK := Lib.hid hok
      obtain ⟨ax, cx, rfl, _⟩ := HX.out
      obtain ⟨ay, cy, rfl, _⟩ := HY.out
      clear hx hy hok hsi
      go_wp2_with fail
      go_still_tail 8, (by kernel_rfl)
      change wpList _ _ _ _ _ wr.drew
      generalize hW : wr.drew = w2
      have NX2 := Lib.hid (show Below w.heap.size w w2 by rw [← hW]; exact Below.drew NX.out)
      have HX2 := Lib.hid (show IntsAt w2 w2.heap.size _ s.cells by rw [← hW]; exact HX.out.heap rfl)
      have HY2 := Lib.hid (show IntsAt w2 w2.heap.size _ s.cells by rw [← hW]; exact HY.out.heap rfl)
      clear hW c0 c1 d0 d1 HX HY NX
      go_wp2_with fail
      refine (refSame_any s s _ _ w2 ⟨_, rfl, HX2.out⟩ ⟨_, rfl, HY2.out⟩ HOK.out.1 HOK.out.1).mono ?_
      rintro e w3 ⟨rfl, hb3⟩
      rw [sameB_refl]
      have NX3 := Lib.hid (NX2.out.trans (hb3.mono NX2.out.size))
      clear hb3
      go_wp2
      go_roundw
      case rel => exact ⟨i + 1, by go_num, by omega, NX3.out⟩
      case measure => simp only [intOf]; omega
    · have e : i = ss.length := by omega
      clear e
      go_wp2
      go_ret
      exact ⟨rfl, NX.out⟩

end Go.Proofs.Ytlandkindbmbfaa
/-
  The walks of slices.Clone, alpha.test, its closures and alpha.Fits: a row fits as the plain law says. Conditions: the numbers are ints, the lists within the form's own reach.
-/
namespace Go.Proofs.Ytlandkindbmbfaa
open Go.RowKit Plain

theorem OwnInts.form {w : World} {B : Nat} {v : Value} {l : List Int} (h : OwnInts w B v l) : ∃ a n c, v = .slice a n c := by
  rcases Joins.ownsRow_forms h with ⟨rfl, _⟩ | ⟨g, cap, rfl⟩
  · exact ⟨_, _, _, rfl⟩
  · exact ⟨_, _, _, rfl⟩

def CloneIs (l : List Int) (w : World) (e : Ending) (w' : World) : Prop := ∃ v, e = .returned v ∧ OwnInts w' w.heap.size v l ∧ Below w.heap.size w w'

set_option maxRecDepth 100000 in
set_option maxHeartbeats 1600000 in
theorem clone_any (l : List Int) (v : Value) (w : World) (hv : IntsAt w w.heap.size v l) (hn : Nilly v) (hl : l.length ≤ 17592186044400) :
    Calls Try.prog 61 #[v] w (CloneIs l w) := by
  obtain ⟨i3, qi, q0, q1, q2⟩ := info_parts Try.info3
  obtain ⟨a, c, rfl, _⟩ := id hv
  rcases a with _ | ad
  · obtain ⟨e1, e2⟩ := hn _ _ rfl
    have h0 : l = [] := List.length_eq_zero_iff.1 e1
    subst h0 e2
    have heq : ∀ w, (binOp .eql 25 (.slice none 0 0) (.slice none 0 0)).run Try.prog w = .ok (.bool true) w := fun w => Lib.run_eql_slice_nil w 25 3 none 0 0 0 0 Try.underlying25
    clear hv hn
    go_enter Try.func61, Try.ntmps61
    go_wp2
    go_ret
    exact ⟨_, rfl, OwnInts.nil _ _, Below.refl _ _⟩
  · have HNW := Lib.hid ((hv.alloc (Nat.le_refl _) (.cells #[] 3)).news)
    have heq : ∀ w, (binOp .eql 25 (.slice (some ad) l.length c) (.slice none 0 0)).run Try.prog w = .ok (.bool false) w := fun w => Lib.run_eql_slice_nil w 25 3 (some ad) _ _ _ _ Try.underlying25
    clear hv hn
    go_enter Try.func61, Try.ntmps61
    go_wp2_with (at_builtin; refine wpList_append_own _ rfl _ _ 25 rfl w.heap.size 3 i3 (.int .i64 0) 1 8 Try.underlying25 qi q0 q1 q2 rfl (by decide) (.slice (some ⟨w.heap.size, 0, none⟩) 0 0) 0 [] rfl (World.ownsRow_made w #[] 0 (Nat.le_refl _) (by decide) rfl) ad l.length c (lits l) rfl (by rw [lits_length, Nat.mul_one]) HNW.out (lits_one _) (by unfold maxLen; omega) (by omega) (by simp) ?_; intro v' w1 hown' hgrow _)
    go_ret
    refine ⟨v', rfl, by unfold OwnInts; simpa only [Nat.zero_add, List.nil_append] using hown', ((Below.refl _ _).alloc (Nat.le_refl _) _).grown hgrow (by simp) (fun k hk => ?_)⟩
    simp [Value.ownBlock] at hk; omega

theorem test1_any (p : Int) (u : Value) (w : World) : Calls Try.prog 63 #[.int .i64 p, u] w fun e w' => e = .returned (.bool false) ∧ w = w' := by
  go_enter Try.func63, Try.ntmps63
  go_wp2
  go_ret
  exact ⟨rfl, rfl⟩

set_option maxRecDepth 100000 in
set_option maxHeartbeats 1600000 in
theorem test2_any (s : Shp) (p : Int) (row : List Int) (u cv : Value) (bs bc : Nat) (w : World) (hva : validB s = true) (hs : Okay s) (hr : row.length ≤ 35184372088832)
    (hu : IntsAt w w.heap.size u row) (hc : IntsAt w w.heap.size cv s.cells) (h0 : w.cell? ⟨bs, 0, none⟩ = some (.int .i64 s.pred)) (h2 : w.cell? ⟨bc, 0, none⟩ = some cv) :
    Calls Try.prog 64 #[.int .i64 p, u, .pointer (some ⟨bs, 0, none⟩), .pointer (some ⟨bc, 0, none⟩)] w fun e w' => e = .returned (.bool (fitsB s p row)) ∧ w = w' := by
  obtain ⟨V, hV⟩ : ∃ V, V = fitsB s p row := ⟨_, rfl⟩
  rw [← hV]
  have HV := Lib.hid hV
  clear hV
  obtain ⟨b, cb, rfl, hb⟩ := hu
  have HU := Lib.hid hb
  obtain ⟨a, ca, rfl, ha⟩ := hc
  have HA := Lib.hid ha
  have hsl := hs.len
  have HVA := Lib.hid hva
  clear ha hb hva
  by_cases hp : p = s.pred
  · by_cases hl : row.length = s.cells.length
    · have hpn : (p != s.pred) = false := by simp [hp]
      have hln : ((s.cells.length : Int) != (s.cells.length : Int)) = false := by simp
      have HL := Lib.hid hl
      have HP := Lib.hid hp
      rw [hl] at hr ⊢
      clear hl hp
      go_enter Try.func64, Try.ntmps64
      go_wp2
      clear hpn hln
      go_loop [23] (fun k => ∃ i : Nat, k = .int .i64 (i : Int) ∧ i ≤ s.cells.length ∧ Hid (AllTo (fitAt s.cells row) i)) (fun k => s.cells.length - (intOf k).toNat)
      case atStart => exact ⟨0, rfl, Nat.zero_le _, AllTo.start _⟩
      case round =>
        obtain ⟨i, rfl, hil, hE⟩ := hrel
        by_cases h1 : i < s.cells.length
        · obtain ⟨g, off, rfl, hg, hc⟩ := HA.out.resolve_left (fun e => by rw [e] at h1; simp at h1)
          obtain ⟨g2, off2, rfl, hg2, hd⟩ := HU.out.resolve_left (fun e => by rw [← HL.out, e] at h1; simp at h1)
          obtain ⟨x, hx⟩ : ∃ x, x = at' s.cells i := ⟨_, rfl⟩
          obtain ⟨y, hy⟩ : ∃ y, y = at' row i := ⟨_, rfl⟩
          have hA : w.cell? ⟨g, off + i, none⟩ = some (.int .i64 x) := by
            rw [hx]; exact hc i h1
          have hB : w.cell? ⟨g2, off2 + i, none⟩ = some (.int .i64 y) := by
            rw [hy]; exact hd i (by rw [HL.out]; exact h1)
          have hxb : -9223372036854775808 ≤ x ∧ x ≤ 9223372036854775807 := by rw [hx]; exact hs.ints i
          by_cases h2 : x < 0
          · obtain ⟨j, hj⟩ : ∃ j : Nat, -1 - x = (j : Int) := ⟨(-1 - x).toNat, by omega⟩
            have hji : j ≤ i := by
              obtain ⟨k, hk, hki, _⟩ := valid_cell HVA.out h1 (by rw [← hx]; exact h2)
              rw [← hx] at hk; omega
            obtain ⟨z, hz⟩ : ∃ z, z = at' row j := ⟨_, rfl⟩
            have hC : w.cell? ⟨g2, off2 + j, none⟩ = some (.int .i64 z) := by
              rw [hz]; exact hd j (by rw [HL.out]; omega)
            have hjl : j < s.cells.length := by omega
            clear hc hd hg hg2 HA HU hs
            by_cases he : y = z
            · have HE := Lib.hid (hE.out.round (by rw [fitAt_neg hx hy h2 hj hz, he]; simp))
              have hb : (z != z) = false := by simp
              subst he
              clear hx hy hz hE
              go_wp2
              go_round
              case rel => exact ⟨i + 1, by go_num, by omega, HE.out⟩
              case measure => simp only [intOf]; omega
            · have hb : (y != z) = true := by simpa using he
              have HR := Lib.hid (show V = false by rw [HV.out]; exact fitsB_bad (by rw [HL.out]; exact h1) (by rw [fitAt_neg hx hy h2 hj hz]; simpa using he))
              clear hx hy hz hE he HV
              go_wp2
              go_ret
              exact ⟨ret_bool HR.out.symm, rfl⟩
          · clear hc hd hg hg2 HA HU hs
            by_cases he : y = x
            · have HE := Lib.hid (hE.out.round (by rw [fitAt_pos hx hy (by omega), he]; simp))
              have hb : (x != x) = false := by simp
              subst he
              clear hx hy hE
              go_wp2
              go_round
              case rel => exact ⟨i + 1, by go_num, by omega, HE.out⟩
              case measure => simp only [intOf]; omega
            · have hb : (y != x) = true := by simpa using he
              have HR := Lib.hid (show V = false by rw [HV.out]; exact fitsB_bad (by rw [HL.out]; exact h1) (by rw [fitAt_pos hx hy (by omega)]; simpa using he))
              clear hx hy hE he HV
              go_wp2
              go_ret
              exact ⟨ret_bool HR.out.symm, rfl⟩
        · have e : i = s.cells.length := by omega
          have HR := Lib.hid (show V = true by rw [HV.out]; exact fitsB_true HVA.out HP.out HL.out (by rw [HL.out, ← e]; exact hE.out))
          clear e
          go_wp2
          go_ret
          exact ⟨ret_bool HR.out.symm, rfl⟩
    · have hpn : (p != s.pred) = false := by simp [hp]
      have hln : ((row.length : Int) != (s.cells.length : Int)) = true := by simp; omega
      have HR := Lib.hid (show V = false by rw [HV.out]; exact fitsB_len hl)
      clear hp hl HV
      go_enter Try.func64, Try.ntmps64
      go_wp2
      go_ret
      exact ⟨ret_bool HR.out.symm, rfl⟩
  · have hpn : (p != s.pred) = true := by simpa using hp
    have HR := Lib.hid (show V = false by rw [HV.out]; exact fitsB_pred hp)
    clear hp HV
    go_enter Try.func64, Try.ntmps64
    go_wp2
    go_ret
    exact ⟨ret_bool HR.out.symm, rfl⟩

/-- What alpha.test hands back. -/
def TestIs (s : Shp) (v : Value) (w : World) (e : Ending) (w' : World) : Prop :=
  (validB s = false ∧ e = .returned (.func (.func 63) #[] #[]) ∧ Below w.heap.size w w') ∨
  (validB s = true ∧ ∃ bc cv, e = .returned (.func (.func 64) #[] #[.pointer (some ⟨w.heap.size, 0, none⟩), .pointer (some ⟨bc, 0, none⟩)]) ∧ Below w.heap.size w w' ∧
    w'.heap[w.heap.size]? = some (.cells #[.int .i64 s.pred, v] 27 (0, 0)) ∧ w.heap.size < bc ∧ w'.heap[bc]? = some (.cells #[cv] 25 (0, 0)) ∧ OwnInts w' w.heap.size cv s.cells)

set_option maxRecDepth 100000 in
set_option maxHeartbeats 1600000 in
theorem test_any (s : Shp) (v : Value) (w : World) (hv : IntsAt w w.heap.size v s.cells) (hn : Nilly v) (hs : Okay s) (hl : s.cells.length ≤ 17592186044400) :
    Calls Try.prog 53 #[.agg #[.int .i64 s.pred, v]] w (TestIs s v w) := by
  have hmf : ∀ (fn : Fn) (first cap : Array Value) (w : World), (Instr.makeFunc fn first cap).run Try.prog w = .ok (.func fn first cap) w := fun _ _ _ _ => rfl
  obtain ⟨a, c, rfl, _⟩ := id hv
  have HV := Lib.hid hv
  have HN := Lib.hid hn
  have HC := Lib.hid (valid_any s _ (w.alloc (.cells #[.int .i64 s.pred, .slice a s.cells.length c] 27)) ((hv.alloc (Nat.le_refl _) _).mono (by simp)) hs.ints hs.len)
  clear hv hn
  go_enter Try.func53, Try.ntmps53
  go_wp2_with fail
  refine HC.out.mono ?_
  rintro e w1 ⟨rfl, hb1⟩
  have hz1 : w.heap.size + 1 ≤ w1.heap.size := by simpa using hb1.size
  have B1 := Lib.hid (show w1.heap[w.heap.size]? = some (.cells #[.int .i64 s.pred, .slice a s.cells.length c] 27 (0, 0)) by rw [hb1.block _ (by simp)]; exact heap_alloc_new w _)
  have N1 := Lib.hid (show Below w.heap.size w w1 from ((Below.refl _ _).alloc (Nat.le_refl _) _).trans (hb1.mono (by simp)))
  clear hb1 HC
  by_cases hva : validB s = true
  · have HVA := Lib.hid hva
    rw [hva]
    clear hva
    have c0 : w1.cell? ⟨w.heap.size, 0, none⟩ = some (.int .i64 s.pred) := by have := B1.out; simp [World.cell?, this]
    have c1 : w1.cell? ⟨w.heap.size, 1, none⟩ = some (.slice a s.cells.length c) := by have := B1.out; simp [World.cell?, this]
    go_wp2_with fail
    refine (clone_any s.cells _ w1 ((HV.out.below N1.out).mono (by omega)) HN.out hl).mono ?_
    rintro e w2 ⟨cv, rfl, hown, hb2⟩
    have hz2 := hb2.size
    have B2 := Lib.hid (show w2.heap[w.heap.size]? = _ from (hb2.block _ (by omega)).trans B1.out)
    have N2 := Lib.hid (N1.out.trans (hb2.mono (by omega)))
    have HO := Lib.hid hown
    obtain ⟨ac, nc, cc, hcv⟩ := hown.form
    subst hcv
    clear hb2 c0 c1 B1 N1 hown
    go_wp2
    go_ret
    refine .inr ⟨HVA.out, w2.heap.size, .slice ac nc cc, rfl, ?_, ?_, by omega, ?_, ?_⟩
    · exact N2.out.alloc (by omega) _
    · rw [Below.heap_alloc _ _ _ (by omega)]; exact B2.out
    · exact heap_alloc_new w2 _
    · exact World.ownsRow.alloc (World.ownsRow.mono HO.out (by omega)) _
  · have hva' : validB s = false := by simpa using hva
    have HR := Lib.hid hva'
    rw [hva']
    clear hva hva'
    go_wp2
    go_ret
    exact .inl ⟨HR.out, rfl, N1.out⟩

theorem OwnInts.mono {w : World} {B B' : Nat} {v : Value} {l : List Int} (h : OwnInts w B v l) (hb : B' ≤ B) : OwnInts w B' v l := World.ownsRow.mono h hb

set_option maxRecDepth 100000 in
set_option maxHeartbeats 1600000 in
theorem fits_any (s : Shp) (v : Value) (p : Int) (row : List Int) (u : Value) (w : World) (hv : IntsAt w w.heap.size v s.cells) (hn : Nilly v) (hs : Okay s) (hl : s.cells.length ≤ 17592186044400)
    (hu : IntsAt w w.heap.size u row) (hr : row.length ≤ 35184372088832) :
    Calls Try.prog 19 #[.agg #[.int .i64 s.pred, v], .int .i64 p, u] w (BoolIs w (fitsB s p row)) := by
  obtain ⟨a, c, rfl, _⟩ := id hv
  obtain ⟨b, cb, rfl, _⟩ := id hu
  have HT := Lib.hid (test_any s _ (w.alloc (.cells #[.int .i64 s.pred, .slice a s.cells.length c] 27)) ((hv.alloc (Nat.le_refl _) _).mono (by simp)) hn hs hl)
  have HU := Lib.hid hu
  clear hv hu hn
  go_enter Try.func19, Try.ntmps19
  go_wp2_with fail
  refine HT.out.mono ?_
  rintro e w1 h
  clear HT
  rcases h with ⟨hva, rfl, hb1⟩ | ⟨hva, bc, cv, rfl, hb1, hB, hlt, hC, hO⟩
  · have HR := Lib.hid (show fitsB s p row = false from fitsB_invalid hva)
    have N1 := Lib.hid (show Below w.heap.size w w1 from ((Below.refl _ _).alloc (Nat.le_refl _) _).trans (hb1.mono (by simp)))
    clear hva hb1
    go_wp2_with fail
    refine (test1_any _ _ _).mono ?_
    rintro e w' ⟨rfl, rfl⟩
    go_wp2
    go_ret
    exact ⟨ret_bool HR.out.symm, N1.out⟩
  · have hz1 : w.heap.size + 1 ≤ w1.heap.size := by simpa using hb1.size
    have N1 := Lib.hid (show Below w.heap.size w w1 from ((Below.refl _ _).alloc (Nat.le_refl _) _).trans (hb1.mono (by simp)))
    have HVA := Lib.hid hva
    have c0 := Lib.hid (show w1.cell? ⟨(w.alloc (.cells #[.int .i64 s.pred, .slice a s.cells.length c] 27)).heap.size, 0, none⟩ = some (.int .i64 s.pred) by simp [World.cell?] at hB ⊢; rw [hB]; rfl)
    have c2 := Lib.hid (show w1.cell? ⟨bc, 0, none⟩ = some cv by simp [World.cell?, hC])
    have HCA := Lib.hid hO.at
    clear hva hb1 hB hC hO hlt
    go_wp2_with fail
    refine (test2_any s p row _ cv _ bc w1 HVA.out hs hr ((HU.out.below N1.out).mono (by omega)) HCA.out (by simpa using c0.out) c2.out).mono ?_
    rintro e w' ⟨rfl, rfl⟩
    go_wp2
    go_ret
    exact ⟨rfl, N1.out⟩

end Go.Proofs.Ytlandkindbmbfaa
/-
  Plain laws of patterns: the shape of a pattern, where a variable stands first. No program is in sight here; no condition beyond those that each lemma states.
-/
namespace Go.Proofs.Ytlandkindbmbfaa.Plain

/-- A pattern's slots: is it a variable, and its number. -/
abbrev Slt := Bool × Int
def isVar (n : Int) (a : Slt) : Bool := a.1 && a.2 == n
/-- Where the variable n stands first; the length where it does not stand. -/
def firstV (l : List Slt) (n : Int) : Nat := l.findIdx (isVar n)
def cellOf (l : List Slt) (a : Slt) : Int := if a.1 then -1 - (firstV l a.2 : Int) else a.2
def okSlt (a : Slt) : Bool := a.1 || decide (0 ≤ a.2)
def shapeB (p : Int) (l : List Slt) : Shp := if decide (0 ≤ p) && l.all okSlt then ⟨p, l.map (cellOf l)⟩ else ⟨-1, []⟩

theorem firstV_le {l : List Slt} {i : Nat} {n : Int} (h : l[i]? = some (true, n)) : firstV l n ≤ i := by
  obtain ⟨hi, e⟩ := List.getElem?_eq_some_iff.1 h
  rcases Nat.lt_or_ge i (firstV l n) with hlt | hge
  · have := List.not_of_lt_findIdx hlt
    rw [e] at this
    simp [isVar] at this
  · exact hge
theorem firstV_at {l : List Slt} {n : Int} (h : firstV l n < l.length) : l[firstV l n]? = some (true, n) := by
  have h1 : isVar n (l[firstV l n]'h) = true := List.findIdx_getElem (w := h)
  rw [List.getElem?_eq_getElem h]
  generalize l[firstV l n]'h = a at h1 ⊢
  obtain ⟨b, m⟩ := a
  simp [isVar] at h1
  simp [h1.1, h1.2]
theorem firstV_ne {l : List Slt} {i : Nat} {a : Slt} {n : Int} (h : l[i]? = some a) (hne : a ≠ (true, n)) : firstV l n ≠ i := by
  intro e
  have hi := (List.getElem?_eq_some_iff.1 h).1
  have := firstV_at (l := l) (n := n) (by omega)
  rw [e, h] at this
  exact hne (Option.some.inj this)

theorem shapeB_neg {p : Int} {l : List Slt} (h : p < 0) : shapeB p l = ⟨-1, []⟩ := by
  unfold shapeB; rw [decide_eq_false (by omega)]; rfl
theorem shapeB_bad {p : Int} {l : List Slt} {i : Nat} {c : Int} (h : l[i]? = some (false, c)) (hc : c < 0) : shapeB p l = ⟨-1, []⟩ := by
  unfold shapeB
  have : l.all okSlt = false := by
    rw [Bool.eq_false_iff]
    intro e
    have := List.all_eq_true.1 e _ (List.mem_of_getElem? h)
    simp [okSlt] at this
    omega
  rw [this, Bool.and_false]; rfl
/-- The first i slots are in order, and c is what their cells are. -/
structure ShTo (l : List Slt) (i : Nat) (c : List Int) : Prop where
  le : i ≤ l.length
  ok : (l.take i).all okSlt = true
  cells : c = (l.take i).map (cellOf l)
theorem ShTo.start (l : List Slt) : ShTo l 0 [] := ⟨Nat.zero_le _, by simp, by simp⟩
theorem ShTo.len {l : List Slt} {i : Nat} {c : List Int} (h : ShTo l i c) : c.length = i := by
  rw [h.cells, List.length_map, List.length_take]; have := h.le; omega
theorem take_one {α : Type} {l : List α} {i : Nat} {a : α} (h : l[i]? = some a) : l.take (i + 1) = l.take i ++ [a] := by
  rw [List.take_add_one, h]; rfl
theorem ShTo.const {l : List Slt} {i : Nat} {c : List Int} {x : Int} (h : ShTo l i c) (hi : l[i]? = some (false, x)) (hx : 0 ≤ x) : ShTo l (i + 1) (c ++ [x]) := by
  have hlt := (List.getElem?_eq_some_iff.1 hi).1
  refine ⟨hlt, ?_, ?_⟩
  · rw [take_one hi, List.all_append, h.ok]; simp [okSlt, hx]
  · rw [take_one hi, List.map_append, ← h.cells]; simp [cellOf]
theorem ShTo.var {l : List Slt} {i : Nat} {c : List Int} {n : Int} {j : Nat} (h : ShTo l i c) (hi : l[i]? = some (true, n)) (hj : firstV l n = j) : ShTo l (i + 1) (c ++ [-1 - (j : Int)]) := by
  have hlt := (List.getElem?_eq_some_iff.1 hi).1
  refine ⟨hlt, ?_, ?_⟩
  · rw [take_one hi, List.all_append, h.ok]; simp [okSlt]
  · rw [take_one hi, List.map_append, ← h.cells, ← hj]; simp [cellOf]
theorem ShTo.stop {l : List Slt} {c : List Int} {p : Int} (h : ShTo l l.length c) (hp : 0 ≤ p) : shapeB p l = ⟨p, c⟩ := by
  unfold shapeB
  have h1 := h.ok
  have h2 := h.cells
  rw [List.take_length] at h1 h2
  rw [h1, decide_eq_true hp, h2]; rfl

/-! ### A pattern in order has a valid shape -/
theorem shapeB_ok {p : Int} {l : List Slt} (hp : 0 ≤ p) (h : l.all okSlt = true) : shapeB p l = ⟨p, l.map (cellOf l)⟩ := by
  unfold shapeB; rw [h, decide_eq_true hp]; rfl
theorem at_map {l : List Slt} {f : Slt → Int} {i : Nat} {a : Slt} (h : l[i]? = some a) : at' (l.map f) i = f a := by
  unfold at'; rw [List.getElem?_map, h]; rfl
theorem shape_valid {p : Int} {l : List Slt} (hp : 0 ≤ p) (h : l.all okSlt = true) : validB (shapeB p l) = true := by
  rw [shapeB_ok hp h]
  refine validB_true hp (fun i hi => ?_)
  simp only [List.length_map] at hi
  have hai : l[i]? = some l[i] := List.getElem?_eq_getElem hi
  generalize l[i] = a at hai
  obtain ⟨b, n⟩ := a
  have hat := at_map (f := cellOf l) hai
  cases b with
  | false =>
    have hn := List.all_eq_true.1 h _ (List.mem_of_getElem? hai)
    simp [okSlt] at hn
    exact okAt_pos (c := n) (by rw [hat]; rfl) hn
  | true =>
    have hle := firstV_le hai
    have hf := firstV_at (l := l) (n := n) (by omega)
    have hat2 := at_map (f := cellOf l) hf
    exact okAt_same (c := -1 - (firstV l n : Int)) (j := firstV l n) (by rw [hat]; rfl) (by omega) (by omega) hle (by rw [hat2]; rfl)

end Go.Proofs.Ytlandkindbmbfaa.Plain
/-
  What the walks are told of patterns in memory, and what the two Shape functions answer. No condition beyond those that each lemma states.
-/
namespace Go.Proofs.Ytlandkindbmbfaa
open Go.RowKit Plain

/-- A slice value that reads as the slots l, all below block B. -/
def SlotsAt (w : World) (B : Nat) (v : Value) (l : List Slt) : Prop :=
  ∃ (a : Option Addr) (cap : Nat), v = .slice a l.length cap ∧ (l = [] ∨ ∃ g off, a = some ⟨g, off, none⟩ ∧ g < B ∧
    ∀ (j : Nat) (b : Bool) (n : Int), l[j]? = some (b, n) → w.cell? ⟨g, off + j * 2, none⟩ = some (.bool b) ∧ w.cell? ⟨g, off + j * 2 + 1, none⟩ = some (.int .i64 n))
/-- The numbers are ints. -/
def I64l (l : List Slt) : Prop := ∀ a, a ∈ l → -9223372036854775808 ≤ a.2 ∧ a.2 ≤ 9223372036854775807

theorem SlotsAt.below {w w' : World} {B : Nat} {v : Value} {l : List Slt} (h : SlotsAt w B v l) (hb : Below B w w') : SlotsAt w' B v l := by
  obtain ⟨a, cap, rfl, h⟩ := h
  refine ⟨a, cap, rfl, ?_⟩
  rcases h with rfl | ⟨g, off, rfl, hg, hc⟩
  · exact .inl rfl
  · refine .inr ⟨g, off, rfl, hg, fun j b n hj => ?_⟩
    obtain ⟨h1, h2⟩ := hc j b n hj
    exact ⟨below_cells hb hg h1, below_cells hb hg h2⟩
theorem SlotsAt.mono {w : World} {B B' : Nat} {v : Value} {l : List Slt} (h : SlotsAt w B v l) (hb : B ≤ B') : SlotsAt w B' v l := by
  obtain ⟨a, cap, rfl, h⟩ := h
  refine ⟨a, cap, rfl, ?_⟩
  rcases h with rfl | ⟨g, off, rfl, hg, hc⟩
  · exact .inl rfl
  · exact .inr ⟨g, off, rfl, by omega, hc⟩
theorem SlotsAt.get {w : World} {B g off c n : Nat} {l : List Slt} (h : SlotsAt w B (.slice (some ⟨g, off, none⟩) n c) l) {i : Nat} {b : Bool} {k : Int} (hs : l[i]? = some (b, k)) :
    g < B ∧ w.cell? ⟨g, off + i * 2, none⟩ = some (.bool b) ∧ w.cell? ⟨g, off + i * 2 + 1, none⟩ = some (.int .i64 k) := by
  obtain ⟨a, cap, e, h⟩ := h
  simp only [Value.slice.injEq] at e
  obtain ⟨rfl, rfl, rfl⟩ := e
  rcases h with rfl | ⟨g', off', h1, hg, hc⟩
  · simp at hs
  · simp only [Option.some.injEq, Addr.mk.injEq, and_true] at h1
    obtain ⟨rfl, rfl⟩ := h1
    exact ⟨hg, hc i b k hs⟩
theorem SlotsAt.form {w : World} {B : Nat} {v : Value} {l : List Slt} (h : SlotsAt w B v l) : ∃ a c, v = .slice a l.length c ∧ (l ≠ [] → ∃ g off, a = some ⟨g, off, none⟩) := by
  obtain ⟨a, cap, rfl, h⟩ := h
  refine ⟨a, cap, rfl, fun hn => ?_⟩
  obtain ⟨g, off, h1, _⟩ := h.resolve_left hn
  exact ⟨g, off, h1⟩

def ShapeIs (s : Shp) (w : World) (e : Ending) (w' : World) : Prop := ∃ v, e = .returned (.agg #[.int .i64 s.pred, v]) ∧ OwnInts w' w.heap.size v s.cells ∧ Below w.heap.size w w'

theorem block_setCell {w : World} {b o : Nat} {cs : Array Value} {t : TypeId} {f : Nat × Nat} {u : Value} (h : w.heap[b]? = some (.cells cs t f)) : (w.setCell ⟨b, o, none⟩ u).heap[b]? = some (.cells (cs.set! o u) t f) := by
  have hlt := lt_of_block h
  have h' : w.heap[b] = .cells cs t f := by simpa [Array.getElem?_eq_getElem hlt] using h
  show (w.heap.modify b _)[b]? = _
  rw [Array.getElem?_eq_getElem (by simpa using hlt), Array.getElem_modify_self, h']
  simp [Array.set!_eq_setIfInBounds]

end Go.Proofs.Ytlandkindbmbfaa
