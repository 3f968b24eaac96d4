/-
  Opening of the arguments of TopMemory: slices of ints, of rows, of steps, their lengths under the second form's bound. No condition.
-/
import Derived.Test.YtmkoejpdoeblkaaRows
import Derived.Test.YtmkoejpdoeblkaaW17
import Derived.ProofKit
import Derived.OpenShut
import Derived.Deep.Slices
import Derived.Deep.Strs
namespace Go.Proofs.Ytmkoejpdoeblkaa
open Go.RowKit Pl Go.ChangeShapes Go.WideShapes Go.ChangeAt Go.Deep Go.Joins

theorem i64_of {z : Int} (h : (Lit.int .i64 z).wf = true) : I64 z := by
  have h1 : IntKind.i64.min = -9223372036854775808 := rfl
  have h2 : IntKind.i64.max = 9223372036854775807 := rfl
  simp only [Lit.wf, Bool.and_eq_true, decide_eq_true_eq] at h
  unfold I64
  omega
theorem bulk_one {H : Type} (d : DataW H) : 1 ≤ Rows.uptoBulk d := by
  cases d with
  | lit l => cases l <;> simp [Rows.uptoBulk]
  | nil => simp [Rows.uptoBulk]
  | ptr d => simp [Rows.uptoBulk]
  | slice elems spare => simp [Rows.uptoBulk]
  | agg parts => simp [Rows.uptoBulk]
  | iface t d => simp [Rows.uptoBulk]
  | map entries => simp [Rows.uptoBulk]
  | held h => simp [Rows.uptoBulk]
theorem bulk_length {H : Type} (l : List (DataW H)) : l.length ≤ Rows.uptoBulkAll l := by
  induction l with
  | nil => simp [Rows.uptoBulkAll]
  | cons x r ih => have := bulk_one x; simp only [Rows.uptoBulkAll, List.length_cons]; omega
theorem bulk_mem {H : Type} {x : DataW H} : ∀ {l : List (DataW H)}, x ∈ l → Rows.uptoBulk x ≤ Rows.uptoBulkAll l
  | [], h => by simp at h
  | y :: r, h => by
    simp only [Rows.uptoBulkAll]
    rcases List.mem_cons.1 h with rfl | h
    · omega
    · have := bulk_mem h; omega
theorem bulk_elems {H : Type} (elems spare : List (DataW H)) : Rows.uptoBulkAll elems ≤ Rows.uptoBulk (.slice elems spare) := by
  simp only [Rows.uptoBulk]
  omega
theorem bulk_parts {H : Type} {x : DataW H} {parts : List (DataW H)} (h : x ∈ parts) : Rows.uptoBulk x ≤ Rows.uptoBulk (.agg parts) := by
  have := bulk_mem h
  simp only [Rows.uptoBulk]
  omega
theorem sum_bulk {H : Type} {f : Nat → Pt} {D : Nat → DataW H} : ∀ {is : List Nat}, (∀ i ∈ is, (f i).rows.length ≤ Rows.uptoBulk (D i)) → sumR (is.map f) ≤ Rows.uptoBulkAll (is.map D)
  | [], _ => by simp [sumR]
  | i :: is, h => by
    have h1 := h i (by simp)
    have h2 := sum_bulk (fun j hj => h j (List.mem_cons_of_mem _ hj))
    simp only [List.map_cons, sumR, Rows.uptoBulkAll]
    omega

theorem Try.cells22 : Try.prog.cellsOf 22 = 1 := by kernel_rfl
theorem Try.cells29 : Try.prog.cellsOf 29 = 1 := by kernel_rfl
theorem Try.cells34 : Try.prog.cellsOf 34 = 2 := by kernel_rfl
theorem Try.cells31 : Try.prog.cellsOf 31 = 3 := by kernel_rfl
instance : Inhabited Pt := ⟨⟨0, [], 0⟩⟩

section
variable {H : Type} {enc : TypeId × Value → H} {W : World} {fuel : Nat} {cs : List Value} {y : DataW H × List MemPlace}
set_option maxRecDepth 100000 in
theorem open_il (hf : DataW.trod enc Try.prog W 0 (fun _ => true) true fuel 22 cs = some y) : ∃ u l, cs = [u] ∧ IntsIn W All u l ∧ I64s l ∧ l.length ≤ Rows.uptoBulk y.1 := by
  rcases open_ints Try.underlying22 Try.underlying3 Try.cells3 hf with ⟨hcs, _⟩ | ⟨x, len, cap, zs, hcs, _, hl, hm, hz, hx, hcell, hwz⟩
  · exact ⟨_, [], hcs, ⟨none, 0, rfl, fun _ => ⟨rfl, rfl⟩, .inl rfl⟩, fun j => by simp [at', I64], by simp⟩
  · have hzl : zs.length = cap := by simpa using hz
    have hlen : (zs.take len).length = len := by simp; omega
    have hget : ∀ j, j < len → at' (zs.take len) j = zs.getD j 0 ∧ I64 (zs.getD j 0) := by
      intro j hj
      have hjz : j < zs.length := by omega
      have hwf := i64_of (hwz zs[j] (List.getElem_mem hjz))
      unfold at'
      rw [List.getD_eq_getElem?_getD, List.getElem?_take, if_pos hj, List.getD_eq_getElem?_getD, List.getElem?_eq_getElem hjz]
      exact ⟨rfl, hwf⟩
    refine ⟨_, zs.take len, hcs, ⟨some x, cap, by rw [hlen], (fun e => by cases e), ?_⟩, ?_, ?_⟩
    · by_cases h0 : len = 0
      · left; subst h0; simp
      · right
        obtain ⟨b, off, spot⟩ := x
        have hc0 := hcell 0 (by omega)
        have hspot : spot = none := by simpa [Addr.add] using World.cell?_spot hc0
        subst hspot
        refine ⟨b, off, rfl, trivial, ?_, fun j hj => ?_⟩
        · exact World.block_lt_of_cell? W _ hc0
        · rw [hlen] at hj
          have hcj := hcell j (by omega)
          rw [addr_add] at hcj
          rw [hcj, (hget j hj).1]
    · intro j
      by_cases hj : j < len
      · obtain ⟨g1, g2⟩ := hget j hj
        rw [g1]; exact g2
      · rw [at_out (by omega)]; simp [I64]
    · rw [hlen, hx]
      refine Nat.le_trans ?_ (Nat.le_trans (bulk_length _) (bulk_elems _ _))
      simp [ChangeShapes.lits]
      omega

set_option maxRecDepth 100000 in
theorem open_rw (hf : DataW.trod enc Try.prog W 0 (fun _ => true) true fuel 34 cs = some y) : ∃ (r : Rw) (u : Value), cs = [.int .i64 r.1, u] ∧ IntsIn W All u r.2 ∧ I64 r.1 ∧ I64s r.2 ∧ r.2.length ≤ Rows.uptoBulk y.1 := by
  obtain ⟨xs, n, _, hx, hl, hlen, hg⟩ := DataW.trod_struct Try.underlying34 hf
  rw [Try.cells34] at hl
  match cs, hl with
  | [e0, e1], _ =>
    match xs, hlen with
    | [y0, y1], _ =>
      have f0 : DataW.trod enc Try.prog W 0 (fun _ => true) true n 3 [e0] = some y0 := by
        have := hg 0 _ rfl
        simpa [Try.cells3] using this
      have f1 : DataW.trod enc Try.prog W 0 (fun _ => true) true n 22 [e1] = some y1 := by
        have := hg 1 _ rfl
        simpa [Try.cells22] using this
      obtain ⟨p, hp, _, hpw⟩ := DataW.trod_int Try.underlying3 f0
      obtain ⟨u, l, hu, h1, h2, h3⟩ := open_il f1
      simp only [List.cons.injEq, and_true] at hp hu
      subst hp hu
      refine ⟨(p, l), e1, rfl, h1, i64_of hpw, h2, Nat.le_trans h3 ?_⟩
      rw [hx]
      exact bulk_parts (by simp)

set_option maxRecDepth 100000 in
theorem open_rws (hf : DataW.trod enc Try.prog W 0 (fun _ => true) true fuel 29 cs = some y) (hk : Rows.uptoBulk y.1 ≤ 1048576) : ∃ u l, cs = [u] ∧ RowsIn W All u l ∧ okRows l ∧ l.length ≤ Rows.uptoBulk y.1 := by
  rcases open_slice Try.underlying29 hf with ⟨hcs, _⟩ | ⟨x, len, cap, m, k, D, Pl, hcs, _, hl, hm, hmm, hx, hcell⟩
  · exact ⟨_, [], hcs, ⟨none, 0, rfl, .inl rfl⟩, fun a ha => by simp at ha, by simp⟩
  · simp only [if_true] at hmm
    subst hmm
    have hbl : len ≤ Rows.uptoBulk y.1 ∧ ∀ i, i < len → Rows.uptoBulk (D i) ≤ Rows.uptoBulk y.1 := by
      rw [hx]
      refine ⟨Nat.le_trans ?_ (Nat.le_trans (bulk_length _) (bulk_elems _ _)), fun i hi => Nat.le_trans (bulk_mem (List.mem_map.2 ⟨i, List.mem_range.2 hi, rfl⟩)) (bulk_elems _ _)⟩
      simp
    by_cases h0 : len = 0
    · subst h0
      exact ⟨_, [], hcs, ⟨some x, m, rfl, .inl rfl⟩, fun a ha => by simp at ha, by simp⟩
    · obtain ⟨b, off, sp⟩ := x
      have first : sp = none ∧ b < W.heap.size := by
        obtain ⟨cs', hc1, hc2⟩ := hcell 0 (by omega)
        rw [Try.cells34] at hc1
        obtain ⟨s, u, rfl, _⟩ := open_rw hc2
        have hc := (World.cells?_some hc1).2.2 0 (by omega)
        have e : ((⟨b, off, sp⟩ : Addr).add (0 * 2)).add 0 = ⟨b, off, sp⟩ := by simp [Addr.add]
        rw [e] at hc
        exact ⟨World.cell?_spot hc, World.block_lt_of_cell? W _ hc⟩
      obtain ⟨rfl, hb⟩ := first
      have each : ∀ i, i < len → ∃ r : Rw, okRow r ∧ ∃ u, W.cell? ⟨b, off + i * 2, none⟩ = some (.int .i64 r.1) ∧ W.cell? ⟨b, off + i * 2 + 1, none⟩ = some u ∧ IntsIn W All u r.2 := by
        intro i hi
        obtain ⟨cs', hc1, hc2⟩ := hcell i (by omega)
        rw [Try.cells34] at hc1
        obtain ⟨r, u, rfl, h1, h2, h3, h4⟩ := open_rw hc2
        have hc := (World.cells?_some hc1).2.2
        have g : ∀ j, j < 2 → W.cell? ⟨b, off + i * 2 + j, none⟩ = [Value.int .i64 r.1, u][j]? := fun j hj => by
          have := hc j hj
          rw [addr_add, addr_add] at this; exact this
        exact ⟨r, ⟨h2, h3, Nat.le_trans h4 (Nat.le_trans (hbl.2 i hi) hk)⟩, u, g 0 (by omega), g 1 (by omega), h1⟩
      obtain ⟨f, hfm⟩ := choose_lt each
      have hlen : ((List.range len).map f).length = len := by simp
      refine ⟨_, (List.range len).map f, hcs, ⟨some ⟨b, off, none⟩, m, by rw [hlen], .inr ⟨b, off, rfl, trivial, hb, fun j r hj => ?_⟩⟩, fun a ha => ?_, by rw [hlen]; exact hbl.1⟩
      · have hjl : j < len := by
          have := (List.getElem?_eq_some_iff.1 hj).1
          omega
        rw [List.getElem?_map, List.getElem?_range hjl] at hj
        simp only [Option.map_some, Option.some.injEq] at hj
        have := (hfm j hjl).2
        rw [hj] at this
        exact this
      · obtain ⟨i, hi, rfl⟩ := List.mem_map.1 ha
        exact (hfm i (List.mem_range.1 hi)).1

set_option maxRecDepth 100000 in
theorem open_pt (hf : DataW.trod enc Try.prog W 0 (fun _ => true) true fuel 31 cs = some y) (hk : Rows.uptoBulk y.1 ≤ 1048576) : ∃ (p : Pt) (u : Value), cs = [.int .i64 p.kind, u, .int .i64 p.num] ∧ RowsIn W All u p.rows ∧ okPt p ∧ p.rows.length ≤ Rows.uptoBulk y.1 := by
  obtain ⟨xs, n, _, hx, hl, hlen, hg⟩ := DataW.trod_struct Try.underlying31 hf
  rw [Try.cells31] at hl
  match cs, hl with
  | [e0, e1, e2], _ =>
    match xs, hlen with
    | [y0, y1, y2], _ =>
      have f0 : DataW.trod enc Try.prog W 0 (fun _ => true) true n 3 [e0] = some y0 := by
        have := hg 0 _ rfl
        simpa [Try.cells3] using this
      have f1 : DataW.trod enc Try.prog W 0 (fun _ => true) true n 29 [e1] = some y1 := by
        have := hg 1 _ rfl
        simpa [Try.cells29] using this
      have f2 : DataW.trod enc Try.prog W 0 (fun _ => true) true n 3 [e2] = some y2 := by
        have := hg 2 _ rfl
        simpa [Try.cells3] using this
      have hb1 : Rows.uptoBulk y1.1 ≤ Rows.uptoBulk y.1 := by rw [hx]; exact bulk_parts (by simp)
      obtain ⟨p, hp, _, hpw⟩ := DataW.trod_int Try.underlying3 f0
      obtain ⟨q, hq, _, hqw⟩ := DataW.trod_int Try.underlying3 f2
      obtain ⟨u, l, hu, h1, h2, h3⟩ := open_rws f1 (Nat.le_trans hb1 hk)
      simp only [List.cons.injEq, and_true] at hp hu hq
      subst hp hu hq
      exact ⟨⟨p, l, q⟩, e1, rfl, h1, ⟨i64_of hqw, h2⟩, Nat.le_trans h3 hb1⟩

set_option maxRecDepth 100000 in
theorem open_pts (hf : DataW.trod enc Try.prog W 0 (fun _ => true) true fuel 23 cs = some y) (hk : Rows.uptoBulk y.1 ≤ 1048576) : ∃ u ps, cs = [u] ∧ PutsIn W u ps ∧ (∀ p ∈ ps, okPt p) ∧ ps.length ≤ 1048576 ∧ sumR ps ≤ 1048576 := by
  rcases open_slice Try.underlying23 hf with ⟨hcs, _⟩ | ⟨x, len, cap, m, k, D, Pl, hcs, _, hl, hm, hmm, hx, hcell⟩
  · exact ⟨_, [], hcs, ⟨none, 0, rfl, .inl rfl⟩, fun a ha => by simp at ha, by simp, by simp [sumR]⟩
  · simp only [if_true] at hmm
    subst hmm
    have hbe : Rows.uptoBulkAll ((List.range len).map D) ≤ 1048576 := Nat.le_trans (by rw [hx]; exact bulk_elems _ _) hk
    have hbl : len ≤ 1048576 := Nat.le_trans (by have := bulk_length ((List.range len).map D); simpa using this) hbe
    have hbi : ∀ i, i < len → Rows.uptoBulk (D i) ≤ 1048576 := fun i hi => Nat.le_trans (bulk_mem (List.mem_map.2 ⟨i, List.mem_range.2 hi, rfl⟩)) hbe
    by_cases h0 : len = 0
    · subst h0
      exact ⟨_, [], hcs, ⟨some x, m, rfl, .inl rfl⟩, fun a ha => by simp at ha, by simp, by simp [sumR]⟩
    · obtain ⟨b, off, sp⟩ := x
      have first : sp = none ∧ b < W.heap.size := by
        obtain ⟨cs', hc1, hc2⟩ := hcell 0 (by omega)
        rw [Try.cells31] at hc1
        obtain ⟨s, u, rfl, _⟩ := open_pt hc2 (hbi 0 (by omega))
        have hc := (World.cells?_some hc1).2.2 0 (by omega)
        have e : ((⟨b, off, sp⟩ : Addr).add (0 * 3)).add 0 = ⟨b, off, sp⟩ := by simp [Addr.add]
        rw [e] at hc
        exact ⟨World.cell?_spot hc, World.block_lt_of_cell? W _ hc⟩
      obtain ⟨rfl, hb⟩ := first
      have each : ∀ i, i < len → ∃ p : Pt, (okPt p ∧ p.rows.length ≤ Rows.uptoBulk (D i)) ∧ ∃ u, W.cell? ⟨b, off + i * 3, none⟩ = some (.int .i64 p.kind) ∧ W.cell? ⟨b, off + i * 3 + 1, none⟩ = some u ∧ W.cell? ⟨b, off + i * 3 + 2, none⟩ = some (.int .i64 p.num) ∧ RowsIn W All u p.rows := by
        intro i hi
        obtain ⟨cs', hc1, hc2⟩ := hcell i (by omega)
        rw [Try.cells31] at hc1
        obtain ⟨p, u, rfl, h1, h2, h3⟩ := open_pt hc2 (hbi i hi)
        have hc := (World.cells?_some hc1).2.2
        have g : ∀ j, j < 3 → W.cell? ⟨b, off + i * 3 + j, none⟩ = [Value.int .i64 p.kind, u, .int .i64 p.num][j]? := fun j hj => by
          have := hc j hj
          rw [addr_add, addr_add] at this; exact this
        exact ⟨p, ⟨h2, h3⟩, u, g 0 (by omega), g 1 (by omega), g 2 (by omega), h1⟩
      obtain ⟨f, hfm⟩ := choose_lt each
      have hlen : ((List.range len).map f).length = len := by simp
      refine ⟨_, (List.range len).map f, hcs, ⟨some ⟨b, off, none⟩, m, by rw [hlen], .inr ⟨b, off, rfl, hb, fun j r hj => ?_⟩⟩, fun a ha => ?_, by rw [hlen]; exact hbl, Nat.le_trans (sum_bulk (D := D) (fun i hi => (hfm i (List.mem_range.1 hi)).1.2)) hbe⟩
      · have hjl : j < len := by
          have := (List.getElem?_eq_some_iff.1 hj).1
          omega
        rw [List.getElem?_map, List.getElem?_range hjl] at hj
        simp only [Option.map_some, Option.some.injEq] at hj
        have := (hfm j hjl).2
        rw [hj] at this
        exact this
      · obtain ⟨i, hi, rfl⟩ := List.mem_map.1 ha
        exact (hfm i (List.mem_range.1 hi)).1.1
end
end Go.Proofs.Ytmkoejpdoeblkaa
