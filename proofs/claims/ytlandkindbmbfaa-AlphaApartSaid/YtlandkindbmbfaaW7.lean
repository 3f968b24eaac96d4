/-
  The walk of edictlaw10.shapes at two lists that read as the same shapes: it answers true. Conditions: the lists are within the form's own reach.
-/
import Derived.Test.YtlandkindbmbfaaW6
import Derived.StillTailTactics
namespace Go.Proofs.Ytlandkindbmbfaa
open Go.RowKit Plain

theorem sameB_refl (s : Shp) : sameB s s = true := by unfold sameB; simp
theorem Below.drew {B : Nat} {a w : World} (h : Below B a w) : Below B a w.drew := ⟨h.os, h.tape, h.output, h.size, h.block⟩

/-- One shape out of a list. -/
theorem ShpsAt.get {w : World} {B g off c : Nat} {n : Nat} {ss : List Shp} (h : ShpsAt w B (.slice (some ⟨g, off, none⟩) n c) ss) {i : Nat} {s : Shp} (hs : ss[i]? = some s) :
    g < B ∧ ∃ u, w.cell? ⟨g, off + i * 2, none⟩ = some (.int .i64 s.pred) ∧ w.cell? ⟨g, off + i * 2 + 1, none⟩ = some u ∧ IntsAt w B u s.cells ∧ Nilly u := by
  obtain ⟨a, cap, e, h⟩ := h
  simp only [Value.slice.injEq] at e
  obtain ⟨rfl, rfl, rfl⟩ := e
  rcases h with rfl | ⟨g', off', h1, hg, hc⟩
  · simp at hs
  · simp only [Option.some.injEq, Addr.mk.injEq, and_true] at h1
    obtain ⟨rfl, rfl⟩ := h1
    exact ⟨hg, hc i s hs⟩
theorem ShpsAt.form {w : World} {B : Nat} {v : Value} {ss : List Shp} (h : ShpsAt w B v ss) : ∃ a c, v = .slice a ss.length c ∧ (ss ≠ [] → ∃ g off, a = some ⟨g, off, none⟩) := by
  obtain ⟨a, cap, rfl, h⟩ := h
  refine ⟨a, cap, rfl, fun hn => ?_⟩
  obtain ⟨g, off, h1, _⟩ := h.resolve_left hn
  exact ⟨g, off, h1⟩
theorem ne_of_lt_len {α : Type} {l : List α} {i : Nat} (h : i < l.length) : l ≠ [] := fun e => by rw [e] at h; simp at h

set_option maxRecDepth 100000 in
set_option maxHeartbeats 1600000 in
theorem shapes_same (ss : List Shp) (v u : Value) (w : World) (hv : ShpsAt w w.heap.size v ss) (hu : ShpsAt w w.heap.size u ss) (hs : Okays ss) (hn : ss.length ≤ 4398046510976) :
    Calls Try.prog 16 #[v, u] w (BoolIs w true) := by
  obtain ⟨a, ca, rfl, ha⟩ := hv.form
  obtain ⟨b, cb, rfl, hb⟩ := hu.form
  have HV := Lib.hid hv
  have HU := Lib.hid hu
  have HA := Lib.hid ha
  have HB := Lib.hid hb
  have hne : ((ss.length : Int) != (ss.length : Int)) = false := by simp
  clear hv hu ha hb
  go_enter Try.func16, Try.ntmps16
  go_wp2
  clear hne
  go_loopw [5] (fun k wr => ∃ i : Nat, k = .int .i64 (i : Int) ∧ i ≤ ss.length ∧ Below w.heap.size w wr) (fun k _ => ss.length - (intOf k).toNat)
  case atStart => exact ⟨0, rfl, Nat.zero_le _, Below.refl _ _⟩
  case round =>
    obtain ⟨i, rfl, hil, hnx⟩ := hrel
    have hsz := hnx.size
    have NX := Lib.hid hnx
    clear hnx
    by_cases h1 : i < ss.length
    · obtain ⟨g, off, rfl⟩ := HA.out (ne_of_lt_len h1)
      obtain ⟨g2, off2, rfl⟩ := HB.out (ne_of_lt_len h1)
      obtain ⟨s, hsi⟩ : ∃ s, ss[i]? = some s := ⟨ss[i]'h1, List.getElem?_eq_getElem h1⟩
      obtain ⟨hg, x, c0, c1, hx, _⟩ := ShpsAt.get (HV.out.below NX.out) hsi
      obtain ⟨hg2, y, d0, d1, hy, _⟩ := ShpsAt.get (HU.out.below NX.out) hsi
      have hok := hs s (List.mem_of_getElem? hsi)
      have HX := Lib.hid (hx.mono hsz)
      have HY := Lib.hid (hy.mono hsz)
      have HOK := Lib.hid hok
      obtain ⟨ax, cx, rfl, _⟩ := HX.out
      obtain ⟨ay, cy, rfl, _⟩ := HY.out
      clear hx hy hok hsi
      go_wp2_with fail
      go_still_tail 8, (by kernel_rfl)
      change wpList _ _ _ _ _ wr.drew
      generalize hW : wr.drew = w2
      have NX2 := Lib.hid (show Below w.heap.size w w2 by rw [← hW]; exact Below.drew NX.out)
      have HX2 := Lib.hid (show IntsAt w2 w2.heap.size _ s.cells by rw [← hW]; exact HX.out.heap rfl)
      have HY2 := Lib.hid (show IntsAt w2 w2.heap.size _ s.cells by rw [← hW]; exact HY.out.heap rfl)
      clear hW c0 c1 d0 d1 HX HY NX
      go_wp2_with fail
      refine (refSame_any s s _ _ w2 ⟨_, rfl, HX2.out⟩ ⟨_, rfl, HY2.out⟩ HOK.out.1 HOK.out.1).mono ?_
      rintro e w3 ⟨rfl, hb3⟩
      rw [sameB_refl]
      have NX3 := Lib.hid (NX2.out.trans (hb3.mono NX2.out.size))
      clear hb3
      go_wp2
      go_roundw
      case rel => exact ⟨i + 1, by go_num, by omega, NX3.out⟩
      case measure => simp only [intOf]; omega
    · have e : i = ss.length := by omega
      clear e
      go_wp2
      go_ret
      exact ⟨rfl, NX.out⟩

end Go.Proofs.Ytlandkindbmbfaa
