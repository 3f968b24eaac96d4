/-
  The walks of copied, ownRow and ownRows: rows of the call's own. Conditions: the lists within the form's own reach.
-/
import Derived.Test.YtmkoejpdoeblkaaW2
namespace Go.Proofs.Ytmkoejpdoeblkaa
open Go.RowKit Pl

theorem Try.size34 : (Try.prog.info? 34).map (·.size) = some 2 := by kernel_rfl
theorem Try.info34 : (Try.prog.info? 34).map (fun i => (i.zero, i.size, i.bytes)) = some (some (.agg #[.int .i64 0, .slice none 0 0]), 2, 32) := by kernel_rfl
theorem row2 {w : World} {B : Nat} {a b : Value} (h : w.heap[B]? = some (.cells #[a, b] 34)) :
    w.cell? ⟨B, 0, none⟩ = some a ∧ w.cell? ⟨B, 1, none⟩ = some b ∧ w.frozen? ⟨B, 0, none⟩ = false ∧ w.frozen? ⟨B, 1, none⟩ = false := by
  refine ⟨?_, ?_, ?_, ?_⟩ <;> simp only [World.cell?, World.frozen?, h] <;> rfl
theorem two_set {w : World} {B : Nat} {a b x y : Value} (h : w.heap[B]? = some (.cells #[a, b] 34)) : ((w.setCell ⟨B, 0, none⟩ x).setCell ⟨B, 1, none⟩ y).heap[B]? = some (.cells #[x, y] 34) := by
  simp [World.setCell, Array.getElem?_modify, h]
theorem two_heap {w1 : World} {n : Nat} (o p : Obj) (h : w1.heap.size = n) : ((w1.alloc o).alloc p).heap[n]? = some o ∧ ((w1.alloc o).alloc p).heap[n + 1]? = some p := by
  subst h
  constructor
  · rw [Below.heap_alloc _ _ _ (by simp)]; exact heap_alloc_new _ _
  · have := heap_alloc_new (w1.alloc o) p
    simpa using this
theorem OwnInts.form {w : World} {B : Nat} {v : Value} {l : List Int} (h : OwnInts w B v l) : ∃ a n c, v = .slice a n c := by
  rcases Joins.ownsRow_forms h with ⟨rfl, _⟩ | ⟨g, cap, rfl⟩
  · exact ⟨_, _, _, rfl⟩
  · exact ⟨_, _, _, rfl⟩
theorem OwnInts.set {w : World} {B : Nat} {v : Value} {l : List Int} (h : OwnInts w B v l) {p : Addr} (hp : p.block < B) (x : Value) : OwnInts (w.setCell p x) B v l := by
  obtain ⟨h1, h2⟩ := h
  refine ⟨h1, ?_⟩
  rcases h2 with h2 | ⟨g, cap, cur, hv, hg, hh, r⟩
  · exact .inl h2
  · exact .inr ⟨g, cap, cur, hv, hg, by rw [Below.heap_setCell _ _ _ _ (by omega)]; exact hh, r⟩
theorem OwnInts.mono {w : World} {B B' : Nat} {v : Value} {l : List Int} (h : OwnInts w B v l) (hB : B' ≤ B) : OwnInts w B' v l := by
  obtain ⟨h1, h2⟩ := h
  refine ⟨h1, ?_⟩
  rcases h2 with h2 | ⟨g, cap, cur, hv, hg, hh, r⟩
  · exact .inl h2
  · exact .inr ⟨g, cap, cur, hv, by omega, hh, r⟩

def RowOwn (r : Rw) (w : World) (e : Ending) (w' : World) : Prop := ∃ u, e = .returned (.agg #[.int .i64 r.1, u]) ∧ OwnInts w' (w.heap.size + 2) u r.2 ∧ Below w.heap.size w w'

set_option maxRecDepth 100000 in
set_option maxHeartbeats 1600000 in
theorem copied_any (r : Rw) (y : Value) (w : World) (hy : RowIn w All y r) (hr : r.2.length ≤ 1048576) :
    Calls Try.prog 29 #[y] w (RowOwn r w) := by
  obtain ⟨u, rfl, hu⟩ := hy
  obtain ⟨p, l⟩ := r
  simp only at hu hr
  obtain ⟨a, c, rfl, _⟩ := hu.form
  obtain ⟨W1, hW1⟩ : ∃ W1, W1 = (w.alloc (.cells #[.int .i64 p, .slice a l.length c] 34)).alloc (.cells #[.int .i64 0, .slice none 0 0] 34) := ⟨_, rfl⟩
  have hz1 : W1.heap.size = w.heap.size + 2 := by rw [hW1]; simp
  have hb1 : Below w.heap.size w W1 := by rw [hW1]; exact ((Below.refl _ _).alloc (Nat.le_refl _) _).alloc (by simp) _
  have q0 : W1.heap[w.heap.size]? = some (.cells #[.int .i64 p, .slice a l.length c] 34) := by rw [hW1]; exact (two_heap _ _ rfl).1
  have q1 : W1.heap[w.heap.size + 1]? = some (.cells #[.int .i64 0, .slice none 0 0] 34) := by rw [hW1]; exact (two_heap _ _ rfl).2
  obtain ⟨c0, c1, _, _⟩ := row2 q0
  have hu1 := (hu.below hb1).all
  have HQ0 := Lib.hid q0
  have HQ1 := Lib.hid q1
  have HB1 := Lib.hid hb1
  have HU1 := Lib.hid hu1
  have HW := Lib.hid hW1
  clear hu hu1 q0 q1 hb1 hW1
  go_enter Try.func29, Try.ntmps29
  go_upto_region 1 with fail
  rw [← HW.out]
  clear HW
  go_region_held3 (fun w' => w'.cell? ⟨w.heap.size, 0, none⟩ = some (.int .i64 p) ∧ w'.cell? ⟨w.heap.size, 1, none⟩ = some (.slice a l.length c))
    (first | exact ⟨c0, c1⟩ | exact ⟨k0, k1⟩ | exact ⟨s0, s1⟩)
    (first
      | (go_at_call 16; refine (clone_any l _ _ (by exact HU1.out.heap rfl) (by omega)).mono ?_; rintro e w3' ⟨u', rfl, ho', hb'⟩; obtain ⟨a', n', c', rfl⟩ := ho'.form; have ho : OwnInts w3' (w.heap.size + 2) (.slice a' n' c') l := (by rw [← hz1]; exact ho'); have hb3 : Below W1.heap.size W1 w3' := ⟨hb'.os, hb'.tape, hb'.output, hb'.size, hb'.block⟩; clear hb' ho'; obtain ⟨k0, k1, _, _⟩ := row2 ((hb3.block _ (by omega)).trans HQ0.out); have hk := (hb3.block (w.heap.size + 1) (by omega)).trans HQ1.out; obtain ⟨_, _, f0, f1⟩ := row2 hk; have HK := Lib.hid hk; have s0 : ((w3'.setCell ⟨w.heap.size + 1, 0, none⟩ (.int .i64 p)).setCell ⟨w.heap.size + 1, 1, none⟩ (.slice a' n' c')).cell? ⟨w.heap.size, 0, none⟩ = some (.int .i64 p) := (World.cell?_of_block ((Below.heap_setCell _ _ _ _ (by simp)).trans (Below.heap_setCell _ _ _ _ (by simp)))).trans k0; have s1 : ((w3'.setCell ⟨w.heap.size + 1, 0, none⟩ (.int .i64 p)).setCell ⟨w.heap.size + 1, 1, none⟩ (.slice a' n' c')).cell? ⟨w.heap.size, 1, none⟩ = some (.slice a l.length c) := (World.cell?_of_block ((Below.heap_setCell _ _ _ _ (by simp)).trans (Below.heap_setCell _ _ _ _ (by simp)))).trans k1; have HO := Lib.hid ho; have HB3 := Lib.hid hb3; clear ho hb3 hk))
  go_wp2
  refine bodyPost_ret (results_cell_row rfl _ _ (w.heap.size + 1) 34 _ (0, 0) _ rfl (two_set HK.out) Try.underlying34 rfl Try.size34) rfl ?_
  exact ⟨.slice a' n' c', rfl, (HO.out.set (by simp) _).set (by simp) _, ((HB1.out.trans (HB3.out.mono (by omega))).setCell (by simp) _).setCell (by simp) _⟩

set_option maxRecDepth 100000 in
set_option maxHeartbeats 1600000 in
theorem ownRow_any (r : Rw) (y : Value) (w : World) (hy : RowIn w All y r) (hr : r.2.length ≤ 1048576) :
    Calls Try.prog 8 #[y] w (RowOwn r w) := by
  obtain ⟨u, rfl, hu⟩ := hy
  obtain ⟨p, l⟩ := r
  simp only at hu hr
  obtain ⟨a, c, rfl, _⟩ := hu.form
  obtain ⟨W1, hW1⟩ : ∃ W1, W1 = (w.alloc (.cells #[.int .i64 p, .slice a l.length c] 34)).alloc (.cells #[.int .i64 0, .slice none 0 0] 34) := ⟨_, rfl⟩
  have hz1 : W1.heap.size = w.heap.size + 2 := by rw [hW1]; simp
  have hb1 : Below w.heap.size w W1 := by rw [hW1]; exact ((Below.refl _ _).alloc (Nat.le_refl _) _).alloc (by simp) _
  have q0 : W1.heap[w.heap.size]? = some (.cells #[.int .i64 p, .slice a l.length c] 34) := by rw [hW1]; exact (two_heap _ _ rfl).1
  have q1 : W1.heap[w.heap.size + 1]? = some (.cells #[.int .i64 0, .slice none 0 0] 34) := by rw [hW1]; exact (two_heap _ _ rfl).2
  obtain ⟨c0, c1, _, _⟩ := row2 q0
  have hu1 := (hu.below hb1).all
  have HQ0 := Lib.hid q0
  have HQ1 := Lib.hid q1
  have HB1 := Lib.hid hb1
  have HU1 := Lib.hid hu1
  have HW := Lib.hid hW1
  clear hu hu1 q0 q1 hb1 hW1
  go_enter Try.func8, Try.ntmps8
  go_upto_region 1 with fail
  rw [← HW.out]
  clear HW
  go_region_held3 (fun w' => w'.cell? ⟨w.heap.size, 0, none⟩ = some (.int .i64 p) ∧ w'.cell? ⟨w.heap.size, 1, none⟩ = some (.slice a l.length c))
    (first | exact ⟨c0, c1⟩ | exact ⟨k0, k1⟩ | exact ⟨s0, s1⟩)
    (first
      | (go_at_call 5; refine (ownInts_any l _ _ (by exact HU1.out.heap rfl) (by omega)).mono ?_; rintro e w3' ⟨u', rfl, ho', hb'⟩; obtain ⟨a', n', c', rfl⟩ := ho'.form; have ho : OwnInts w3' (w.heap.size + 2) (.slice a' n' c') l := (by rw [← hz1]; exact ho'); have hb3 : Below W1.heap.size W1 w3' := ⟨hb'.os, hb'.tape, hb'.output, hb'.size, hb'.block⟩; clear hb' ho'; obtain ⟨k0, k1, _, _⟩ := row2 ((hb3.block _ (by omega)).trans HQ0.out); have hk := (hb3.block (w.heap.size + 1) (by omega)).trans HQ1.out; obtain ⟨_, _, f0, f1⟩ := row2 hk; have HK := Lib.hid hk; have s0 : ((w3'.setCell ⟨w.heap.size + 1, 0, none⟩ (.int .i64 p)).setCell ⟨w.heap.size + 1, 1, none⟩ (.slice a' n' c')).cell? ⟨w.heap.size, 0, none⟩ = some (.int .i64 p) := (World.cell?_of_block ((Below.heap_setCell _ _ _ _ (by simp)).trans (Below.heap_setCell _ _ _ _ (by simp)))).trans k0; have s1 : ((w3'.setCell ⟨w.heap.size + 1, 0, none⟩ (.int .i64 p)).setCell ⟨w.heap.size + 1, 1, none⟩ (.slice a' n' c')).cell? ⟨w.heap.size, 1, none⟩ = some (.slice a l.length c) := (World.cell?_of_block ((Below.heap_setCell _ _ _ _ (by simp)).trans (Below.heap_setCell _ _ _ _ (by simp)))).trans k1; have HO := Lib.hid ho; have HB3 := Lib.hid hb3; clear ho hb3 hk))
  go_wp2
  refine bodyPost_ret (results_cell_row rfl _ _ (w.heap.size + 1) 34 _ (0, 0) _ rfl (two_set HK.out) Try.underlying34 rfl Try.size34) rfl ?_
  exact ⟨.slice a' n' c', rfl, (HO.out.set (by simp) _).set (by simp) _, ((HB1.out.trans (HB3.out.mono (by omega))).setCell (by simp) _).setCell (by simp) _⟩
end Go.Proofs.Ytmkoejpdoeblkaa
