/-
  The list of constants as it is handed in. Conditions: that it reads.
-/
import Derived.Test.YtijmogehmcjopaaDoorW28
import Derived.Lib.LaidTab
import Derived.WideShapes
import Derived.Deep.Strs
import Derived.Deep.Slices
namespace Go.Proofs.YtijmogehmcjopaaDoor
open Go.RowKit Go.Deep Ct

theorem cells_three' {W : World} {base : Nat} {a : Addr} {cs : List Value} (h : W.cells? base a 3 = some cs) : ∃ x y z, cs = [x, y, z] ∧ W.cell? (a.add 0) = some x ∧ W.cell? (a.add 1) = some y ∧ W.cell? (a.add 2) = some z := by
  unfold World.cells? at h
  split at h
  · have hl := Lib.mapM_length h
    simp at hl
    match cs, hl with
    | [x, y, z], _ =>
      refine ⟨x, y, z, rfl, ?_, ?_, ?_⟩
      · obtain ⟨b, h1, h2⟩ := Lib.mapM_at h 0 0 (by simp)
        simp at h1; rw [h1]; exact h2
      · obtain ⟨b, h1, h2⟩ := Lib.mapM_at h 1 1 (by simp)
        simp at h1; rw [h1]; exact h2
      · obtain ⟨b, h1, h2⟩ := Lib.mapM_at h 2 2 (by simp)
        simp at h1; rw [h1]; exact h2
  · cases h
theorem wf_inR {n : Int} (h : (Lit.int .i64 n).wf = true) : InR n := by
  have h1 : IntKind.i64.min = -9223372036854775808 := rfl
  have h2 : IntKind.i64.max = 9223372036854775807 := rfl
  simp only [Lit.wf, Bool.and_eq_true, decide_eq_true_eq] at h
  unfold InR
  omega
theorem cellsOf26 : Tryd.prog.cellsOf 26 = 3 := by kernel_rfl
theorem cellsOf3 : Tryd.prog.cellsOf 3 = 1 := by kernel_rfl
theorem cellsOf2 : Tryd.prog.cellsOf 2 = 1 := by kernel_rfl
theorem cellsOf9 : Tryd.prog.cellsOf 9 = 1 := by kernel_rfl

theorem opened {H : Type} {enc : TypeId × Value → H} {W : World} {spare : Nat → Bool} {held : Bool} {fuel : Nat} {v : Value} {x : DataW H × List MemPlace} (h : DataW.trod enc Tryd.prog W 0 spare held fuel 22 [v] = some x) :
    ∃ (cs : List Cn) (a : Option Addr) (cap : Nat), v = .slice a cs.length cap ∧ cs.length ≤ maxLen ∧ CnsAt W a cs ∧ ∀ c ∈ cs, InC c := by
  rcases open_slice Tryd.underlying22 h with ⟨hcs, _⟩ | ⟨a, len, cap, m, n, D, Pl, hcs, _, hle, hcm, hm, _, hel⟩
  · refine ⟨[], none, 0, by simpa using hcs, by simp, fun e => absurd rfl e, fun c hc => by simp at hc⟩
  · have hmm : len ≤ m := by rw [hm]; split <;> omega
    have each : ∀ i, ∃ c : Cn, i < len → W.cell? ((a.add (i * 3)).add 0) = some (.int .i64 c.kind) ∧ W.cell? ((a.add (i * 3)).add 1) = some (.int .i64 c.int) ∧ W.cell? ((a.add (i * 3)).add 2) = some (.string ⟨c.text.toArray⟩) ∧ InC c := by
      intro i
      by_cases hi : i < len
      · obtain ⟨cs', h1, h2⟩ := hel i (by omega)
        rw [cellsOf26] at h1
        obtain ⟨x, y, z, rfl, k0, k1, k2⟩ := cells_three' h1
        obtain ⟨y0, y1, y2, n', _, _, g0, g1, g2⟩ := trod_struct3 Tryd.underlying26 h2
        simp only [cellsOf3] at g0
        simp only [cellsOf2] at g1
        simp only [cellsOf9] at g2
        obtain ⟨v0, e0, _, f0⟩ := DataW.trod_int Tryd.underlying3 g0
        obtain ⟨v1, e1, _, f1⟩ := DataW.trod_int Tryd.underlying2 g1
        obtain ⟨s, e2, _, f2⟩ := DataW.trod_string Tryd.underlying9 g2
        simp at e0 e1 e2
        subst e0 e1 e2
        exact ⟨⟨v0, v1, L s⟩, fun _ => ⟨k0, k1, k2, wf_inR f0, wf_inR f1, by rw [L_len]; exact f2⟩⟩
      · exact ⟨cn0, fun h => absurd h hi⟩
    obtain ⟨f, hf⟩ := Classical.axiomOfChoice each
    have hv : v = .slice (some a) len cap := by simpa using hcs
    have hl : ((List.range len).map f).length = len := by simp
    refine ⟨(List.range len).map f, some a, cap, by rw [hl]; exact hv, by rw [hl]; omega, fun hne => ?_, fun c hc => ?_⟩
    · have h0len : 0 < len := by
        rcases Nat.eq_zero_or_pos len with h0 | h0
        · subst h0; exact absurd rfl hne
        · exact h0
      have h0 := (hf 0 h0len).1
      obtain ⟨b, off, spot⟩ := a
      have hspot : spot = none := by simpa [Addr.add] using World.cell?_spot h0
      subst hspot
      refine ⟨b, off, rfl, ?_, fun i hi => ?_⟩
      · simp only [Go.WideShapes.add_plain] at h0
        exact World.block_lt_of_cell? _ _ h0
      · have hil : i < len := by simpa using hi
        obtain ⟨k0, k1, k2, _⟩ := hf i hil
        simp only [Go.WideShapes.add_plain] at k0 k1 k2
        simp only [List.getElem_map, List.getElem_range]
        exact ⟨k0, k1, k2⟩
    · obtain ⟨i, hi, rfl⟩ := List.mem_map.1 hc
      exact (hf i (by simpa using hi)).2.2.2
end Go.Proofs.YtijmogehmcjopaaDoor
