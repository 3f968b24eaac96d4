/-
  The walk of keyOf: a row's key. Conditions: the row has at most eight ids.
-/
import Derived.Test.YtmkoejpdoeblkaaK3
import Derived.Laws.CopyOwn
namespace Go.Proofs.Ytmkoejpdoeblkaa
open Go.RowKit Pl

theorem Try.size58 : (Try.prog.info? 58).map (·.size) = some 9 := by kernel_rfl
theorem Try.size3 : (Try.prog.info? 3).map (·.size) = some 1 := by kernel_rfl
def zeros : List Value := [.int .i64 0, .int .i64 0, .int .i64 0, .int .i64 0, .int .i64 0, .int .i64 0, .int .i64 0, .int .i64 0]
theorem splice_key (p : Int) (l : List Int) (hl : l.length ≤ 8) : (splice (Value.int .i64 p :: zeros) 1 (lits l)).toArray = keyC (p, l) := by
  rcases l with _ | ⟨a0, _ | ⟨a1, _ | ⟨a2, _ | ⟨a3, _ | ⟨a4, _ | ⟨a5, _ | ⟨a6, _ | ⟨a7, _ | ⟨a8, l⟩⟩⟩⟩⟩⟩⟩⟩⟩
  all_goals first | rfl | (simp only [List.length_cons] at hl; omega)
theorem nine {w : World} {B : Nat} {a b c d e f g h i : Value} (q : w.heap[B]? = some (.cells #[a, b, c, d, e, f, g, h, i] 58)) :
    w.cell? ⟨B, 0, none⟩ = some a ∧ w.cell? ⟨B, 1, none⟩ = some b ∧ w.cell? ⟨B, 2, none⟩ = some c ∧ w.cell? ⟨B, 3, none⟩ = some d ∧ w.cell? ⟨B, 4, none⟩ = some e ∧ w.cell? ⟨B, 5, none⟩ = some f ∧ w.cell? ⟨B, 6, none⟩ = some g ∧ w.cell? ⟨B, 7, none⟩ = some h ∧ w.cell? ⟨B, 8, none⟩ = some i := by
  refine ⟨?_, ?_, ?_, ?_, ?_, ?_, ?_, ?_, ?_⟩ <;> simp only [World.cell?, q] <;> rfl
theorem nine_froz {w : World} {B : Nat} {a b c d e f g h i : Value} (q : w.heap[B]? = some (.cells #[a, b, c, d, e, f, g, h, i] 58)) :
    w.frozen? ⟨B, 0, none⟩ = false ∧ w.frozen? ⟨B, 1, none⟩ = false ∧ w.frozen? ⟨B, 2, none⟩ = false ∧ w.frozen? ⟨B, 3, none⟩ = false ∧ w.frozen? ⟨B, 4, none⟩ = false ∧ w.frozen? ⟨B, 5, none⟩ = false ∧ w.frozen? ⟨B, 6, none⟩ = false ∧ w.frozen? ⟨B, 7, none⟩ = false ∧ w.frozen? ⟨B, 8, none⟩ = false := by
  refine ⟨?_, ?_, ?_, ?_, ?_, ?_, ?_, ?_, ?_⟩ <;> simp only [World.frozen?, q] <;> rfl
theorem three_heap {w1 : World} {n : Nat} (o p q : Obj) (h : w1.heap.size = n) : (((w1.alloc o).alloc p).alloc q).heap[n]? = some o ∧ (((w1.alloc o).alloc p).alloc q).heap[n + 1]? = some p ∧ (((w1.alloc o).alloc p).alloc q).heap[n + 2]? = some q := by
  obtain ⟨h1, h2⟩ := two_heap (w1 := w1) o p h
  refine ⟨(Below.heap_alloc _ _ _ (by simp; omega)).trans h1, (Below.heap_alloc _ _ _ (by simp; omega)).trans h2, ?_⟩
  have := heap_alloc_new ((w1.alloc o).alloc p) q
  simpa [h] using this

def nineSet (w : World) (B : Nat) (a b c d e f g h i : Value) : World :=
  ((((((((w.setCell ⟨B, 0, none⟩ a).setCell ⟨B, 1, none⟩ b).setCell ⟨B, 2, none⟩ c).setCell ⟨B, 3, none⟩ d).setCell ⟨B, 4, none⟩ e).setCell ⟨B, 5, none⟩ f).setCell ⟨B, 6, none⟩ g).setCell ⟨B, 7, none⟩ h).setCell ⟨B, 8, none⟩ i
theorem nineSet_is {w w' : World} {B : Nat} {a b c d e f g h i a' b' c' d' e' f' g' h' i' : Value} (q : w.heap[B]? = some (.cells #[a', b', c', d', e', f', g', h', i'] 58)) (hw : w' = nineSet w B a b c d e f g h i) :
    w'.heap[B]? = some (.cells #[a, b, c, d, e, f, g, h, i] 58) ∧ Below B w w' := by
  subst hw
  constructor
  · simp [nineSet, World.setCell, Array.getElem?_modify, q]
  · have s : ∀ (W : World) (j : Nat) (v : Value), Below B w W → Below B w (W.setCell ⟨B, j, none⟩ v) := fun W j v h => h.setCell (Nat.le_refl _) v
    exact s _ _ _ (s _ _ _ (s _ _ _ (s _ _ _ (s _ _ _ (s _ _ _ (s _ _ _ (s _ _ _ (s _ _ _ (Below.refl _ _)))))))))

set_option maxRecDepth 100000 in
set_option maxHeartbeats 3200000 in
theorem keyOf_any (r : Rw) (y : Value) (w : World) (hy : RowIn w All y r) (hr : r.2.length ≤ 8) :
    Calls Try.prog 19 #[y] w fun e w' => e = .returned (keyV r) ∧ Below w.heap.size w w' := by
  obtain ⟨u, rfl, hu⟩ := hy
  obtain ⟨p, l⟩ := r
  simp only at hu hr
  obtain ⟨a, c, rfl, hfa⟩ := hu.form
  have HKEY := Lib.hid (splice_key p l hr)
  obtain ⟨k0, hk0⟩ : ∃ k : Int, k = at' l 0 := ⟨_, rfl⟩
  obtain ⟨k1, hk1⟩ : ∃ k : Int, k = at' l 1 := ⟨_, rfl⟩
  obtain ⟨k2, hk2⟩ : ∃ k : Int, k = at' l 2 := ⟨_, rfl⟩
  obtain ⟨k3, hk3⟩ : ∃ k : Int, k = at' l 3 := ⟨_, rfl⟩
  obtain ⟨k4, hk4⟩ : ∃ k : Int, k = at' l 4 := ⟨_, rfl⟩
  obtain ⟨k5, hk5⟩ : ∃ k : Int, k = at' l 5 := ⟨_, rfl⟩
  obtain ⟨k6, hk6⟩ : ∃ k : Int, k = at' l 6 := ⟨_, rfl⟩
  obtain ⟨k7, hk7⟩ : ∃ k : Int, k = at' l 7 := ⟨_, rfl⟩
  have HKC : Hid (keyC (p, l) = #[.int .i64 p, .int .i64 k0, .int .i64 k1, .int .i64 k2, .int .i64 k3, .int .i64 k4, .int .i64 k5, .int .i64 k6, .int .i64 k7]) := Lib.hid (by rw [hk0, hk1, hk2, hk3, hk4, hk5, hk6, hk7]; rfl)
  obtain ⟨W1, hW1⟩ : ∃ W1, W1 = ((w.alloc (.cells #[.int .i64 p, .slice a l.length c] 34)).alloc (.cells #[.int .i64 0, .int .i64 0, .int .i64 0, .int .i64 0, .int .i64 0, .int .i64 0, .int .i64 0, .int .i64 0, .int .i64 0] 58)).alloc (.cells #[.int .i64 p, .int .i64 0, .int .i64 0, .int .i64 0, .int .i64 0, .int .i64 0, .int .i64 0, .int .i64 0, .int .i64 0] 58) := ⟨_, rfl⟩
  have hz1 : W1.heap.size = w.heap.size + 3 := by rw [hW1]; simp
  have hb1 : Below w.heap.size w W1 := by rw [hW1]; exact (((Below.refl _ _).alloc (Nat.le_refl _) _).alloc (by simp) _).alloc (by simp; omega) _
  obtain ⟨q0, q1, q2⟩ : W1.heap[w.heap.size]? = some (.cells #[.int .i64 p, .slice a l.length c] 34) ∧ W1.heap[w.heap.size + 1]? = some (.cells #[.int .i64 0, .int .i64 0, .int .i64 0, .int .i64 0, .int .i64 0, .int .i64 0, .int .i64 0, .int .i64 0, .int .i64 0] 58) ∧
      W1.heap[w.heap.size + 2]? = some (.cells #[.int .i64 p, .int .i64 0, .int .i64 0, .int .i64 0, .int .i64 0, .int .i64 0, .int .i64 0, .int .i64 0, .int .i64 0] 58) := by rw [hW1]; exact three_heap _ _ _ rfl
  obtain ⟨c0, c1, _, _⟩ := row2 q0
  have HW := Lib.hid hW1
  have HQ1 := Lib.hid q1
  have HQ2 := Lib.hid q2
  have HB1 := Lib.hid hb1
  have HU := Lib.hid (hu.below hb1)
  have HFA := Lib.hid hfa
  clear hu hfa hk0 hk1 hk2 hk3 hk4 hk5 hk6 hk7 hW1 q0 q1 q2 hb1
  go_enter Try.func19, Try.ntmps19
  go_upto_region 2 with fail
  rw [show w.heap.size + 1 + 1 = w.heap.size + 2 from rfl]
  rw [← HW.out]
  clear HW
  go_still_tail 3, (by kernel_rfl)
  change wpList _ _ _ _ _ W1.drew
  have HQ2' : Hid (W1.drew.heap[w.heap.size + 2]? = some (.cells (Value.int .i64 p :: zeros).toArray 58 (0, 0))) := HQ2
  refine wpList_copy_splice rfl _ _ 22 22 rfl 3 Try.underlying22 Try.size3 (some ⟨w.heap.size + 2, 1, none⟩) a 8 8 l.length c rfl rfl (w.heap.size + 2) 1 (Value.int .i64 p :: zeros) 58 HQ2'.out (lits l) (by rw [lits_length]; exact (Nat.min_eq_left hr).symm)
    (fun h0 => ⟨rfl, ?_⟩) (by rw [lits_length]; simp [zeros]; omega) (lits_one _) (w.heap.size + 2) W1 ⟨rfl, rfl, rfl, Nat.le_refl _, fun _ _ => rfl⟩ (Nat.le_refl _) ?_
  · rw [lits_length] at h0
    obtain ⟨g, off, rfl⟩ := HFA.out (fun e => by rw [e] at h0; simp at h0)
    exact ⟨_, rfl, (HU.out.heap (w' := W1.drew) rfl).news⟩
  · intro w2 hh hb2
    rw [HKEY.out, HKC.out] at hh
    obtain ⟨x0, x1, x2, x3, x4, x5, x6, x7, x8⟩ := nine hh.out
    have q1 := (hb2.block (w.heap.size + 1) (by omega)).trans HQ1.out
    obtain ⟨f0, f1, f2, f3, f4, f5, f6, f7, f8⟩ := nine_froz q1
    obtain ⟨y0, y1, y2, y3, y4, y5, y6, y7, y8⟩ := nine q1
    have HQ := Lib.hid q1
    have HB2 := Lib.hid hb2
    clear q1 hh hb2
    obtain ⟨w4, hw4⟩ : ∃ w4, w4 = nineSet w2 (w.heap.size + 1) (.int .i64 p) (.int .i64 k0) (.int .i64 k1) (.int .i64 k2) (.int .i64 k3) (.int .i64 k4) (.int .i64 k5) (.int .i64 k6) (.int .i64 k7) := ⟨_, rfl⟩
    obtain ⟨g1, g2⟩ := nineSet_is (w' := w4) HQ.out hw4
    have HG := Lib.hid g1
    have HG2 := Lib.hid g2
    unfold nineSet at hw4
    have HW4 := Lib.hid hw4
    clear g1 g2 hw4
    go_wp2
    rw [← HW4.out]
    refine bodyPost_ret (results_cell_row rfl _ _ (w.heap.size + 1) 58 #[.int .i64 p, .int .i64 k0, .int .i64 k1, .int .i64 k2, .int .i64 k3, .int .i64 k4, .int .i64 k5, .int .i64 k6, .int .i64 k7] (0, 0) _ rfl HG.out Try.underlying58 rfl Try.size58) rfl ?_
    refine ⟨by rw [keyV, HKC.out], HB1.out.trans ⟨HG2.out.os.trans HB2.out.os, HG2.out.tape.trans HB2.out.tape, HG2.out.output.trans HB2.out.output, Nat.le_trans HB2.out.size HG2.out.size, fun k hk => (HG2.out.block k (by omega)).trans (HB2.out.block k (by omega))⟩⟩
end Go.Proofs.Ytmkoejpdoeblkaa
