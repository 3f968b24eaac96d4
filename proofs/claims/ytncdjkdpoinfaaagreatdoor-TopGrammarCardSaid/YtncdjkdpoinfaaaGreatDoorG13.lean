/-
  Texts of this seat, one behind the other: W32, W33, W34, K6. Conditions: those that each of them states.
-/
import Derived.Test.YtncdjkdpoinfaaaGreatDoorG12
import Derived.Test.YtncdjkdpoinfaaaGreatDoorG3
import Derived.Deep.RegionHeld3
import Derived.Deep.AppendLies
import Derived.Deep.DrawnRows
import Derived.Laws.AppendOwnNone
/-
  The walks of parse's reader: what comes next. Conditions: the reader lies in memory.
-/
namespace Go.Proofs.YtncdjkdpoinfaaaGreatDoor
open Go.RowKit Go.Shelf Pl

set_option maxRecDepth 100000 in
set_option maxHeartbeats 3200000 in
theorem peek_some (X : Nat) (v : Value) (ts : List Tk) (a : Nat) (f : Gr.Flt) (w : World) (t : Tk) (r : List Tk) (hd : ts.drop a = t :: r) (hR : Rdr w X v ts a f) :
    Calls Tryz.prog 18 #[.pointer (some ⟨X, 0, none⟩)] w fun e w' => e = .returned (tkA t) ∧ Below w.heap.size w w' := by
  obtain ⟨hlt, _, _⟩ := drop_at hd
  have hfew := hR.few
  obtain ⟨w1, hw1⟩ : ∃ w1, w1 = w.alloc (.cells #[.int .i64 0, .string { data := #[] }, .int .i64 0, .int .i64 0, .int .i64 0, .int .i64 0] 62) := ⟨_, rfl⟩
  have hR1 : Rdr w1 X v ts a f := by rw [hw1]; exact hR.alloc _
  have q1 : w1.heap[w.heap.size]? = some (.cells #[.int .i64 0, .string { data := #[] }, .int .i64 0, .int .i64 0, .int .i64 0, .int .i64 0] 62) := by rw [hw1]; exact heap_alloc_new _ _
  have hB1 : Below w.heap.size w w1 := by rw [hw1]; exact up_alloc _ _
  obtain ⟨g, cap, rfl, k0, k1, k2, k3, k4, k5⟩ := hR1.tok hd
  obtain ⟨c0, c1, c2, c4, fz⟩ := hR1.cells
  obtain ⟨r0, r1, r2, r3, r4, r5, f0, f1, f2, f3, f4, f5⟩ := row6 q1
  have hge : decide (ts.length ≤ a) = false := decide_eq_false (by omega)
  have hge2 : ¬ ts.length ≤ a := by omega
  have m0 : (0 : Int) ≤ (a : Int) := by omega
  have m1 : (a : Int) < (ts.length : Int) := by omega
  have HW1 := Lib.hid hw1
  have HQ1 := Lib.hid q1
  have HB1 := Lib.hid hB1
  have HR1 := Lib.hid hR1
  have HD := Lib.hid hd
  clear hR hd hw1 q1 hB1 hR1
  go_enter Tryz.func18, Tryz.ntmps18
  go_upto_region 1 with fail
  rw [← HW1.out]
  go_quiet (fail)
  obtain ⟨w2, hw2⟩ : ∃ w2, w2 = w1.drewN nq := ⟨_, rfl⟩
  rw [← hw2]
  have hR2 : Rdr w2 X (.slice (some ⟨g, 0, none⟩) ts.length cap) ts a f := by rw [hw2]; exact HR1.out.drewN _
  have q2 : w2.heap[w.heap.size]? = some (.cells #[.int .i64 0, .string { data := #[] }, .int .i64 0, .int .i64 0, .int .i64 0, .int .i64 0] 62) := by rw [hw2]; exact HQ1.out
  have hB2 : Below w.heap.size w w2 := by rw [hw2]; exact below_drewN HB1.out
  clear k0 k1 k2 k3 k4 k5 c0 c1 c2 c4 fz r0 r1 r2 r3 r4 r5 f0 f1 f2 f3 f4 f5 hw2
  obtain ⟨_, k0, k1, k2, k3, k4, k5⟩ := hR2.tokAt HD.out
  obtain ⟨c0, c1, c2, c4, fz⟩ := hR2.cells
  obtain ⟨r0, r1, r2, r3, r4, r5, f0, f1, f2, f3, f4, f5⟩ := row6 q2
  have HB2 := Lib.hid hB2
  have HH := Lib.hid (six_set (x0 := .int .i64 (t.kind : Int)) (x1 := .string ⟨t.text.toArray⟩) (x2 := .int .i64 t.int) (x3 := .int .i64 (t.op : Int)) (x4 := .int .i64 (t.off : Int)) (x5 := .int .i64 (t.fin : Int)) q2)
  clear hR2 q2 hB2
  go_upto_region 3 with fail
  go_region
  all_goals
    go_wp2
    refine bodyPost_ret (results_cell_row rfl _ _ w.heap.size 62 #[.int .i64 (t.kind : Int), .string ⟨t.text.toArray⟩, .int .i64 t.int, .int .i64 (t.op : Int), .int .i64 (t.off : Int), .int .i64 (t.fin : Int)] (0, 0) _ rfl (by rw [drew_heap]; exact HH.out) Tryz.underlying62 rfl Tryz.size32) rfl ?_
    exact ⟨rfl, (six_below HB2.out (Nat.le_refl _)).drew⟩

set_option maxRecDepth 100000 in
set_option maxHeartbeats 3200000 in
theorem peek_none (X : Nat) (v : Value) (ts : List Tk) (a : Nat) (f : Gr.Flt) (w : World) (hd : ts.drop a = []) (hR : Rdr w X v ts a f) :
    Calls Tryz.prog 18 #[.pointer (some ⟨X, 0, none⟩)] w fun e w' => e = gvE f ∧ Below w.heap.size w w' := by
  have hfew := hR.few
  have hle : ts.length ≤ a := by simpa using hd
  obtain ⟨w1, hw1⟩ : ∃ w1, w1 = w.alloc (.cells #[.int .i64 0, .string { data := #[] }, .int .i64 0, .int .i64 0, .int .i64 0, .int .i64 0] 62) := ⟨_, rfl⟩
  have hR1 : Rdr w1 X v ts a f := by rw [hw1]; exact hR.alloc _
  have hB1 : Below w.heap.size w w1 := by rw [hw1]; exact up_alloc _ _
  obtain ⟨va, vc, rfl⟩ := hR.slice
  obtain ⟨c0, c1, c2, c4, fz⟩ := hR1.cells
  have hge : decide (ts.length ≤ a) = true := decide_eq_true (by omega)
  have HW1 := Lib.hid hw1
  have HB1 := Lib.hid hB1
  have HR1 := Lib.hid hR1
  clear hR hd hw1 hB1 hR1
  go_enter Tryz.func18, Tryz.ntmps18
  go_upto_region 1 with fail
  rw [← HW1.out]
  go_quiet (fail)
  obtain ⟨w2, hw2⟩ : ∃ w2, w2 = w1.drewN nq := ⟨_, rfl⟩
  rw [← hw2]
  have hR2 : Rdr w2 X (.slice va ts.length vc) ts a f := by rw [hw2]; exact HR1.out.drewN _
  have hB2 : Below w.heap.size w w2 := by rw [hw2]; exact below_drewN HB1.out
  clear c0 c1 c2 c4 fz hw2
  obtain ⟨c0, c1, c2, c4, fz⟩ := hR2.cells
  have HB2 := Lib.hid hB2
  clear hR2 hB2
  go_upto_region 2 with fail
  refine wp_region_H (fun x => x = w2.drew) (by kernel_rfl) ?_
  have hS0 : w2.drew = w2.drew := rfl
  refine wpAnyH_tk 0 _ ?_ rfl rfl (by kernel_rfl) (fun _ _ _ h => h) (by assumption) (Or.inl ⟨by rfl, fun x hx => ?_⟩) ?_
  rotate_left
  · rw [hx]
    clear hx
    go_simp
    try with_reducible rfl
  simp only [Act.put, List.setIfInBounds_toArray, List.set_cons_zero, List.set_cons_succ]
  refine wpAnyH_tk 1 _ ?_ rfl rfl (by kernel_rfl) (fun _ _ _ h => h) (by assumption) (Or.inl ⟨by rfl, fun x hx => ?_⟩) ?_
  rotate_left
  · rw [hx]
    clear hx
    go_simp
    try with_reducible rfl
  simp only [Act.put, List.setIfInBounds_toArray, List.set_cons_zero, List.set_cons_succ]
  refine wpAnyH_tk 2 _ ?_ rfl rfl (by kernel_rfl) (fun _ _ _ h => h) (by assumption) (Or.inl ⟨by rfl, fun x hx => ?_⟩) ?_
  rotate_left
  · rw [hx]
    clear hx
    go_simp
    try with_reducible rfl
  simp only [Act.put, List.setIfInBounds_toArray, List.set_cons_zero, List.set_cons_succ]
  refine wpAnyH_tk 3 _ ?_ rfl rfl (by kernel_rfl) (fun _ _ _ h => h) (by assumption) (Or.inl ⟨by rfl, fun x hx => ?_⟩) ?_
  rotate_left
  · rw [hx]
    clear hx
    go_simp
    try with_reducible rfl
  simp only [Act.put, List.setIfInBounds_toArray, List.set_cons_zero, List.set_cons_succ]
  refine wpAnyH_tk 4 _ ?_ rfl rfl (by kernel_rfl) (fun _ _ _ h => h) (by assumption) (Or.inl ⟨by rfl, fun x hx => ?_⟩) ?_
  rotate_left
  · rw [hx]
    clear hx
    go_simp
    try with_reducible rfl
  simp only [Act.put, List.setIfInBounds_toArray, List.set_cons_zero, List.set_cons_succ]
  refine wpAnyH_tk 5 _ ?_ rfl rfl (by kernel_rfl) (fun _ _ _ h => h) (by assumption) (Or.inl ⟨by rfl, fun x hx => ?_⟩) ?_
  rotate_left
  · rw [hx]
    clear hx
    go_simp
    try with_reducible rfl
  simp only [Act.put, List.setIfInBounds_toArray, List.set_cons_zero, List.set_cons_succ]
  refine wpAnyH_tk 6 _ ?_ rfl rfl (by kernel_rfl) (fun _ _ _ h => h) (by assumption) (Or.inl ⟨by rfl, fun x hx => ?_⟩) ?_
  rotate_left
  · rw [hx]
    clear hx
    go_simp
    try with_reducible rfl
  simp only [Act.put, List.setIfInBounds_toArray, List.set_cons_zero, List.set_cons_succ]
  refine wpAnyH_tk 7 _ ?_ rfl rfl (by kernel_rfl) (fun _ _ _ h => h) (by assumption) (Or.inl ⟨by rfl, fun x hx => ?_⟩) ?_
  rotate_left
  · rw [hx]
    clear hx
    go_simp
    try with_reducible rfl
  simp only [Act.put, List.setIfInBounds_toArray, List.set_cons_zero, List.set_cons_succ]
  refine wpAnyH_tk 8 _ ?_ rfl rfl (by kernel_rfl) (fun _ _ _ h => h) (by assumption) (Or.inl ⟨by rfl, fun x hx => ?_⟩) ?_
  rotate_left
  · rw [hx]
    clear hx
    go_simp
    try with_reducible rfl
  simp only [Act.put, List.setIfInBounds_toArray, List.set_cons_zero, List.set_cons_succ]
  refine wpAnyH_tk 9 _ ?_ rfl rfl (by kernel_rfl) (fun _ _ _ h => h) (by assumption) (Or.inl ⟨by rfl, fun x hx => ?_⟩) ?_
  rotate_left
  · rw [hx]
    clear hx
    go_simp
    try with_reducible rfl
  simp only [Act.put, List.setIfInBounds_toArray, List.set_cons_zero, List.set_cons_succ]
  refine wpAnyH_tk 10 _ ?_ rfl rfl (by kernel_rfl) (fun _ _ _ h => h) (by assumption) (Or.inl ⟨by rfl, fun x hx => ?_⟩) ?_
  rotate_left
  · rw [hx]
    clear hx
    go_simp
    try with_reducible rfl
  simp only [Act.put, List.setIfInBounds_toArray, List.set_cons_zero, List.set_cons_succ]
  refine wpAnyH_tk 11 _ ?_ rfl rfl (by kernel_rfl) (fun _ _ _ h => h) (by assumption) (Or.inl ⟨by rfl, fun x hx => ?_⟩) ?_
  rotate_left
  · rw [hx]
    clear hx
    go_simp
    try with_reducible rfl
  simp only [Act.put, List.setIfInBounds_toArray, List.set_cons_zero, List.set_cons_succ]
  refine wpAnyH_tk 12 _ ?_ rfl rfl (by kernel_rfl) (fun _ _ _ h => h) (by assumption) (Or.inl ⟨by rfl, fun x hx => ?_⟩) ?_
  rotate_left
  · rw [hx]
    clear hx
    go_simp
    try with_reducible rfl
  simp only [Act.put, List.setIfInBounds_toArray, List.set_cons_zero, List.set_cons_succ]
  refine wpAnyH_one 13 rfl (by kernel_rfl) (fun K' hK' => ?_)
  go_simp
  refine ⟨rfl, ?_⟩
  exact ⟨rfl, HB2.out.drew⟩

set_option maxRecDepth 100000 in
set_option maxHeartbeats 3200000 in
theorem stop_some (X : Nat) (v : Value) (ts : List Tk) (a : Nat) (f : Gr.Flt) (w : World) (t : Tk) (r : List Tk) (k : Nat) (hd : ts.drop a = t :: r) (hR : Rdr w X v ts a f) :
    Calls Tryz.prog 19 #[.pointer (some ⟨X, 0, none⟩), .int .i64 (k : Int)] w fun e w' => e = gvE (k, t.off) ∧ Below w.heap.size w w' := by
  go_enter Tryz.func19, Tryz.ntmps19
  go_wp2_with fail
  refine (peek_some X v ts a f _ t r hd hR).mono ?_
  rintro e w2 ⟨rfl, hb⟩
  simp only [tkA]
  have hf4 := fld4
  go_wp2
  exact ⟨rfl, rfl, hb⟩
end Go.Proofs.YtncdjkdpoinfaaaGreatDoor
/-
  The walks of parse's reader: how it gives up, how it takes a token. Conditions: the reader lies in memory.
-/
namespace Go.Proofs.YtncdjkdpoinfaaaGreatDoor
open Go.RowKit Go.Shelf Pl

set_option maxRecDepth 100000 in
set_option maxHeartbeats 3200000 in
theorem refuse_some (X : Nat) (v : Value) (ts : List Tk) (a : Nat) (f : Gr.Flt) (w : World) (t : Tk) (r : List Tk) (hd : ts.drop a = t :: r) (hR : Rdr w X v ts a f) :
    Calls Tryz.prog 37 #[.pointer (some ⟨X, 0, none⟩)] w fun e w' => e = gvE (Gr.ref t) ∧ Below w.heap.size w w' := by
  have hf0 := fld0
  by_cases hk : t.kind = 0
  · have e1 : ((t.kind : Int) == 0) = true := by simp; omega
    have HF : Hid (Gr.ref t = (21, t.off)) := Lib.hid (by simp [Gr.ref, hk])
    clear hk
    go_enter Tryz.func37, Tryz.ntmps37
    go_wp2_with fail
    refine (peek_some X v ts a f _ t r hd hR).mono ?_
    rintro e w2 ⟨rfl, hb⟩
    simp only [tkA]
    go_wp2_with fail
    refine (stop_some X v ts a f _ t r 21 hd (hR.below hb)).mono ?_
    rintro e w3 ⟨rfl, hb3⟩
    refine ⟨rfl, by rw [HF.out]; rfl, hb.trans (hb3.mono hb.size)⟩
  · have e1 : ((t.kind : Int) == 0) = false := by simp; omega
    have HF : Hid (Gr.ref t = (20, t.off)) := Lib.hid (by simp [Gr.ref, hk])
    clear hk
    go_enter Tryz.func37, Tryz.ntmps37
    go_wp2_with fail
    refine (peek_some X v ts a f _ t r hd hR).mono ?_
    rintro e w2 ⟨rfl, hb⟩
    simp only [tkA]
    go_wp2_with fail
    refine (stop_some X v ts a f _ t r 20 hd (hR.below hb)).mono ?_
    rintro e w3 ⟨rfl, hb3⟩
    refine ⟨rfl, by rw [HF.out]; rfl, hb.trans (hb3.mono hb.size)⟩

/-- What taking a token ends with. -/
def TakeIs (X : Nat) (v : Value) (ts : List Tk) (f : Gr.Flt) (w : World) (res : Gr.Res Tk) (e : Ending) (w' : World) : Prop := ParIs X v ts f w (fun t _ u => u = tkA t) res e w'

set_option maxRecDepth 100000 in
set_option maxHeartbeats 3200000 in
theorem take_any (X : Nat) (v : Value) (ts : List Tk) (a : Nat) (f : Gr.Flt) (w : World) (k : Nat) (hR : Rdr w X v ts a f) :
    Calls Tryz.prog 26 #[.pointer (some ⟨X, 0, none⟩), .int .i64 (k : Int)] w (TakeIs X v ts f w (Gr.takeP f k (ts.drop a))) := by
  have hX := hR.lt
  have hfew := hR.few
  obtain ⟨V, hV⟩ : ∃ V, V = Gr.takeP f k (ts.drop a) := ⟨_, rfl⟩
  rw [← hV]
  obtain ⟨w1, hw1⟩ : ∃ w1, w1 = w.alloc (.cells #[.int .i64 0, .string { data := #[] }, .int .i64 0, .int .i64 0, .int .i64 0, .int .i64 0] 62) := ⟨_, rfl⟩
  have hR1 : Rdr w1 X v ts a f := by rw [hw1]; exact hR.alloc _
  have hB1 : Below w.heap.size w w1 := by rw [hw1]; exact up_alloc _ _
  have hz1 : w1.heap.size = w.heap.size + 1 := by rw [hw1]; simp
  have q1 : w1.heap[w.heap.size]? = some (.cells #[.int .i64 0, .string { data := #[] }, .int .i64 0, .int .i64 0, .int .i64 0, .int .i64 0] 62) := by rw [hw1]; exact heap_alloc_new _ _
  have HW1 := Lib.hid hw1
  have HB1 := Lib.hid hB1
  have HQ1 := Lib.hid q1
  clear hw1 hB1 q1
  cases hd : ts.drop a with
  | nil =>
    rw [hd] at hV
    have HV := Lib.hid hV
    clear hV
    go_enter Tryz.func26, Tryz.ntmps26
    go_upto_region 1 with fail
    rw [← HW1.out]
    go_wp2_with fail
    refine (peek_none X v ts a f _ hd hR1).mono ?_
    rintro e w2 ⟨rfl, hb⟩
    refine ⟨rfl, Bes.of (HB1.out.trans (hb.mono (by omega))), ?_⟩
    rw [HV.out]; rfl
  | cons t r =>
    rw [hd] at hV
    have hdl := drop_at hd
    have HD := Lib.hid hd
    go_enter Tryz.func26, Tryz.ntmps26
    go_upto_region 1 with fail
    rw [← HW1.out]
    go_wp2_with fail
    refine (peek_some X v ts a f _ t r hd hR1).mono ?_
    rintro e w2 ⟨rfl, hb⟩
    simp only [tkA]
    have hR2 := hR1.below hb
    have q2 : w2.heap[w.heap.size]? = some (.cells #[.int .i64 0, .string { data := #[] }, .int .i64 0, .int .i64 0, .int .i64 0, .int .i64 0] 62) := by rw [hb.block _ (by omega)]; exact HQ1.out
    have hB2 := HB1.out.trans (hb.mono (by omega))
    go_upto_region 2 with fail
    obtain ⟨w3, hw3⟩ : ∃ w3, w3 = w2.alloc (.cells #[.int .i64 (t.kind : Int), .string { data := t.text.toArray }, .int .i64 t.int, .int .i64 (t.op : Int), .int .i64 (t.off : Int), .int .i64 (t.fin : Int)] 62) := ⟨_, rfl⟩
    rw [← hw3]
    have hz2 := hb.size
    have hR3 : Rdr w3 X v ts a f := by rw [hw3]; exact hR2.alloc _
    have hB3 : Below w.heap.size w w3 := by rw [hw3]; exact hB2.alloc (by omega) _
    have q3 : w3.heap[w.heap.size]? = some (.cells #[.int .i64 0, .string { data := #[] }, .int .i64 0, .int .i64 0, .int .i64 0, .int .i64 0] 62) := by rw [hw3, Below.heap_alloc _ _ _ (by omega)]; exact q2
    have t3 : w3.heap[w2.heap.size]? = some (.cells #[.int .i64 (t.kind : Int), .string { data := t.text.toArray }, .int .i64 t.int, .int .i64 (t.op : Int), .int .i64 (t.off : Int), .int .i64 (t.fin : Int)] 62) := by rw [hw3]; exact heap_alloc_new _ _
    obtain ⟨b, hb0⟩ : ∃ b, b = w2.heap.size := ⟨_, rfl⟩
    rw [← hb0] at t3 ⊢
    have HB0 := Lib.hid hb0
    have HR3 := Lib.hid hR3
    have HB3 := Lib.hid hB3
    have HQ3 := Lib.hid q3
    have HT3 := Lib.hid t3
    obtain ⟨r0, r1, r2, r3, r4, r5, f0, f1, f2, f3, f4, f5⟩ := row6 t3
    obtain ⟨y0, y1, y2, y3, y4, y5, g0, g1, g2, g3, g4, g5⟩ := row6 q3
    clear hR2 q2 hB2 hw3 hb hR1 hb0 hR3 hB3 q3 t3
    by_cases hk : t.kind = k
    · have e1 : ((t.kind : Int) != (k : Int)) = false := by simp; omega
      by_cases hk0 : k = 0
      · have e2 : ((k : Int) != 0) = false := by simp; omega
        have HV : Hid (V = .ok (t, t :: r)) := Lib.hid (by rw [hV]; simp [Gr.takeP, hk, hk0])
        clear hk hk0 hV
        have HH := Lib.hid (six_set (x0 := .int .i64 (t.kind : Int)) (x1 := .string ⟨t.text.toArray⟩) (x2 := .int .i64 t.int) (x3 := .int .i64 (t.op : Int)) (x4 := .int .i64 (t.off : Int)) (x5 := .int .i64 (t.fin : Int)) HQ3.out)
        have HB5 := Lib.hid (six_below (x0 := .int .i64 (t.kind : Int)) (x1 := .string ⟨t.text.toArray⟩) (x2 := .int .i64 t.int) (x3 := .int .i64 (t.op : Int)) (x4 := .int .i64 (t.off : Int)) (x5 := .int .i64 (t.fin : Int)) HB3.out (Nat.le_refl _))
        go_wp2
        refine bodyPost_ret (results_cell_row rfl _ _ w.heap.size 62 #[.int .i64 (t.kind : Int), .string ⟨t.text.toArray⟩, .int .i64 t.int, .int .i64 (t.op : Int), .int .i64 (t.off : Int), .int .i64 (t.fin : Int)] (0, 0) _ rfl HH.out Tryz.underlying62 rfl Tryz.size32) rfl ?_
        refine ⟨Bes.of HB5.out, ?_⟩
        rw [HV.out]
        exact ⟨_, a, rfl, rfl, hR.below HB5.out, HD.out⟩
      · have e2 : ((k : Int) != 0) = true := by simp; omega
        have HV : Hid (V = .ok (t, r)) := Lib.hid (by rw [hV]; simp [Gr.takeP, hk, hk0])
        clear hk hk0 hV
        obtain ⟨hlt, _, hd1⟩ := hdl
        have hw : IntKind.i64.wrap ((a : Int) + 1) = ((a + 1 : Nat) : Int) := by rw [IntKind.wrap_i64]; omega
        obtain ⟨c0, c1, c2, c4, fz⟩ := HR3.out.cells
        go_upto_region 6 with fail
        obtain ⟨w4, hw4⟩ : ∃ w4, w4 = w3.setCell ⟨X, 1, none⟩ (.int .i64 ((a : Int) + 1)) := ⟨_, rfl⟩
        rw [← hw4]
        have hB4 : Bes X w w4 := by rw [hw4]; exact (Bes.of HB3.out).set (p := ⟨X, 1, none⟩) (.inl rfl) _
        have hR4 : Rdr w4 X v ts (a + 1) f := by rw [hw4]; exact HR3.out.set (q := a + 1) (by omega)
        have q4 : w4.heap[w.heap.size]? = some (.cells #[.int .i64 0, .string { data := #[] }, .int .i64 0, .int .i64 0, .int .i64 0, .int .i64 0] 62) := by rw [hw4, Below.heap_setCell _ _ _ _ (by simp; omega)]; exact HQ3.out
        have t4 : w4.heap[b]? = some (.cells #[.int .i64 (t.kind : Int), .string { data := t.text.toArray }, .int .i64 t.int, .int .i64 (t.op : Int), .int .i64 (t.off : Int), .int .i64 (t.fin : Int)] 62) := by rw [hw4, Below.heap_setCell _ _ _ _ (by have := HB0.out; simp; omega)]; exact HT3.out
        clear hw4 r0 r1 r2 r3 r4 r5 f0 f1 f2 f3 f4 f5 y0 y1 y2 y3 y4 y5 g0 g1 g2 g3 g4 g5 c0 c1 c2 c4 fz
        obtain ⟨r0, r1, r2, r3, r4, r5, f0, f1, f2, f3, f4, f5⟩ := row6 t4
        obtain ⟨y0, y1, y2, y3, y4, y5, g0, g1, g2, g3, g4, g5⟩ := row6 q4
        have HH := Lib.hid (six_set (x0 := .int .i64 (t.kind : Int)) (x1 := .string ⟨t.text.toArray⟩) (x2 := .int .i64 t.int) (x3 := .int .i64 (t.op : Int)) (x4 := .int .i64 (t.off : Int)) (x5 := .int .i64 (t.fin : Int)) q4)
        have HB5 := Lib.hid (six_bes (x0 := .int .i64 (t.kind : Int)) (x1 := .string ⟨t.text.toArray⟩) (x2 := .int .i64 t.int) (x3 := .int .i64 (t.op : Int)) (x4 := .int .i64 (t.off : Int)) (x5 := .int .i64 (t.fin : Int)) hB4 (Nat.le_refl _))
        have HR5 := Lib.hid (hR.turn HB5.out (by rw [six_oth (by omega)]; exact hR4.row) (by omega))
        clear hB4 hR4 q4 t4
        go_wp2
        refine bodyPost_ret (results_cell_row rfl _ _ w.heap.size 62 #[.int .i64 (t.kind : Int), .string ⟨t.text.toArray⟩, .int .i64 t.int, .int .i64 (t.op : Int), .int .i64 (t.off : Int), .int .i64 (t.fin : Int)] (0, 0) _ rfl HH.out Tryz.underlying62 rfl Tryz.size32) rfl ?_
        refine ⟨HB5.out, ?_⟩
        rw [HV.out]
        exact ⟨_, a + 1, rfl, rfl, HR5.out, hd1⟩
    · have e1 : ((t.kind : Int) != (k : Int)) = true := by simp; omega
      have HV : Hid (V = .error (Gr.ref t)) := Lib.hid (by rw [hV]; simp [Gr.takeP, hk])
      clear hk hV
      go_wp2_with fail
      refine (refuse_some X v ts a f _ t r HD.out HR3.out).mono ?_
      rintro e w4 ⟨rfl, hb4⟩
      refine ⟨rfl, Bes.of (HB3.out.trans (hb4.mono (HB3.out.size))), ?_⟩
      rw [HV.out]; rfl
end Go.Proofs.YtncdjkdpoinfaaaGreatDoor
/-
  The walks of parse's reader: is the token behind a comparison, a term. Conditions: the reader lies in memory.
-/
namespace Go.Proofs.YtncdjkdpoinfaaaGreatDoor
open Go.RowKit Go.Shelf Pl

set_option maxRecDepth 100000 in
set_option maxHeartbeats 3200000 in
theorem opBehind_any (X : Nat) (v : Value) (ts : List Tk) (a : Nat) (f : Gr.Flt) (w : World) (t : Tk) (r : List Tk) (hd : ts.drop a = t :: r) (hR : Rdr w X v ts a f) :
    Calls Tryz.prog 57 #[.pointer (some ⟨X, 0, none⟩)] w fun e w' => e = .returned (.bool (Gr.hdOp r)) ∧ Below w.heap.size w w' := by
  obtain ⟨hlt, _, hd1⟩ := drop_at hd
  have hfew := hR.few
  obtain ⟨V, hV⟩ : ∃ V, V = Gr.hdOp r := ⟨_, rfl⟩
  rw [← hV]
  obtain ⟨g, cap, rfl, _⟩ := hR.tok hd
  obtain ⟨c0, c1, c2, c4, fz⟩ := hR.cells
  have hw : IntKind.i64.wrap ((a : Int) + 1) = ((a : Int) + 1) := by rw [IntKind.wrap_i64]; omega
  have hle := hR.le
  have HB : Hid (Below w.heap.size w w) := Lib.hid (Below.refl _ _)
  cases r with
  | nil =>
    have HV : Hid (V = false) := Lib.hid hV
    have hge : decide ((a : Int) + 1 < (ts.length : Int)) = false := decide_eq_false (by simp at hd1; omega)
    clear hV hd1 hd hR
    go_enter Tryz.func57, Tryz.ntmps57
    go_upto_region 1 with fail
    go_quiet (fail)
    go_wp2
    go_ret
    exact ⟨by rw [HV.out]; rfl, below_drewN HB.out⟩
  | cons s r2 =>
    have HV : Hid (V = ((s.kind : Int) == 11)) := Lib.hid (by rw [hV, Bool.eq_iff_iff]; simp [Gr.hdOp]; omega)
    obtain ⟨hlt2, _, _⟩ := drop_at hd1
    have hge : decide ((a : Int) + 1 < (ts.length : Int)) = true := decide_eq_true (by omega)
    have m0 : (0 : Int) ≤ (a : Int) + 1 := by omega
    have m1 : (a : Int) + 1 < (ts.length : Int) := by omega
    have hR' : Rdr w X (.slice (some ⟨g, 0, none⟩) ts.length cap) ts (a + 1) f → True := fun _ => trivial
    have k0 : w.cell? ⟨g, (a + 1) * 6, none⟩ = some (.int .i64 (s.kind : Int)) := by
      have hc := (tok_cells hR.own hlt2).1
      rw [hc]
      have := (drop_at hd1).2.1
      simp only [this]
    have kt : ((a : Int) + 1).toNat = a + 1 := by omega
    clear hV hd1 hd hR hR'
    go_enter Tryz.func57, Tryz.ntmps57
    go_upto_region 1 with fail
    go_quiet (fail)
    go_wp2
    go_ret
    exact ⟨by rw [HV.out]; rfl, below_drewN HB.out⟩

theorem row4 {w : World} {B : Nat} {a b c d : Value} (h : w.heap[B]? = some (.cells #[a, b, c, d] 59)) :
    w.cell? ⟨B, 0, none⟩ = some a ∧ w.cell? ⟨B, 1, none⟩ = some b ∧ w.cell? ⟨B, 2, none⟩ = some c ∧ w.cell? ⟨B, 3, none⟩ = some d ∧
    w.frozen? ⟨B, 0, none⟩ = false ∧ w.frozen? ⟨B, 1, none⟩ = false ∧ w.frozen? ⟨B, 2, none⟩ = false ∧ w.frozen? ⟨B, 3, none⟩ = false := by
  refine ⟨?_, ?_, ?_, ?_, ?_, ?_, ?_, ?_⟩ <;> simp only [World.cell?, World.frozen?, h] <;> rfl
theorem Tryz.size59 : (Tryz.prog.info? 59).map (·.size) = some 4 := by kernel_rfl
theorem four_set {w : World} {R : Nat} {x0 x1 x2 x3 u0 u1 u2 u3 : Value} (h : w.heap[R]? = some (.cells #[u0, u1, u2, u3] 59)) :
    ((((w.setCell ⟨R, 0, none⟩ x0).setCell ⟨R, 1, none⟩ x1).setCell ⟨R, 2, none⟩ x2).setCell ⟨R, 3, none⟩ x3).heap[R]? = some (.cells #[x0, x1, x2, x3] 59) := by
  simp [World.setCell, Array.getElem?_modify, h]
theorem four_bes {w0 w : World} {X R : Nat} {x0 x1 x2 x3 : Value} (h : Bes X w0 w) (hR : w0.heap.size ≤ R) :
    Bes X w0 ((((w.setCell ⟨R, 0, none⟩ x0).setCell ⟨R, 1, none⟩ x1).setCell ⟨R, 2, none⟩ x2).setCell ⟨R, 3, none⟩ x3) :=
  (((h.set (.inr hR) _).set (.inr hR) _).set (.inr hR) _).set (.inr hR) _
theorem four_oth {w : World} {k R : Nat} {x0 x1 x2 x3 : Value} (h : k ≠ R) :
    ((((w.setCell ⟨R, 0, none⟩ x0).setCell ⟨R, 1, none⟩ x1).setCell ⟨R, 2, none⟩ x2).setCell ⟨R, 3, none⟩ x3).heap[k]? = w.heap[k]? := by
  rw [Below.heap_setCell _ _ _ _ h, Below.heap_setCell _ _ _ _ h, Below.heap_setCell _ _ _ _ h, Below.heap_setCell _ _ _ _ h]
theorem three_set59 {w : World} {R : Nat} {x0 x1 x2 u0 u1 u2 u3 : Value} (h : w.heap[R]? = some (.cells #[u0, u1, u2, u3] 59)) :
    (((w.setCell ⟨R, 0, none⟩ x0).setCell ⟨R, 1, none⟩ x1).setCell ⟨R, 2, none⟩ x2).heap[R]? = some (.cells #[x0, x1, x2, u3] 59) := by
  simp [World.setCell, Array.getElem?_modify, h]
theorem one_set59 {w : World} {R : Nat} {x0 u0 u1 u2 u3 : Value} (h : w.heap[R]? = some (.cells #[u0, u1, u2, u3] 59)) :
    (w.setCell ⟨R, 0, none⟩ x0).heap[R]? = some (.cells #[x0, u1, u2, u3] 59) := by
  simp [World.setCell, Array.getElem?_modify, h]
/-- A term's cells. -/
def trmL (x : Gr.Trm) : List Value := [.int .i64 (x.kind : Int), .int .i64 x.int, .string ⟨x.text.toArray⟩, .int .i64 (x.off : Int)]
def trmA (x : Gr.Trm) : Value := .agg #[.int .i64 (x.kind : Int), .int .i64 x.int, .string ⟨x.text.toArray⟩, .int .i64 (x.off : Int)]
/-- What reading a term ends with. -/
def TermIs (X : Nat) (v : Value) (ts : List Tk) (f : Gr.Flt) (w : World) (res : Gr.Res Gr.Trm) (e : Ending) (w' : World) : Prop := ParIs X v ts f w (fun x _ u => u = trmA x) res e w'

set_option maxRecDepth 100000 in
set_option maxHeartbeats 3200000 in
theorem term_any (X : Nat) (v : Value) (ts : List Tk) (a : Nat) (f : Gr.Flt) (w : World) (vars : Bool) (hR : Rdr w X v ts a f) :
    Calls Tryz.prog 47 #[.pointer (some ⟨X, 0, none⟩), .bool vars] w (TermIs X v ts f w (Gr.termP f vars (ts.drop a))) := by
  have hX := hR.lt
  have hfew := hR.few
  obtain ⟨V, hV⟩ : ∃ V, V = Gr.termP f vars (ts.drop a) := ⟨_, rfl⟩
  rw [← hV]
  obtain ⟨w1, hw1⟩ : ∃ w1, w1 = w.alloc (.cells #[.int .i64 0, .int .i64 0, .string { data := #[] }, .int .i64 0] 59) := ⟨_, rfl⟩
  have hR1 : Rdr w1 X v ts a f := by rw [hw1]; exact hR.alloc _
  have hB1 : Below w.heap.size w w1 := by rw [hw1]; exact up_alloc _ _
  have hz1 : w1.heap.size = w.heap.size + 1 := by rw [hw1]; simp
  have q1 : w1.heap[w.heap.size]? = some (.cells #[.int .i64 0, .int .i64 0, .string { data := #[] }, .int .i64 0] 59) := by rw [hw1]; exact heap_alloc_new _ _
  have HW1 := Lib.hid hw1
  have HB1 := Lib.hid hB1
  have HQ1 := Lib.hid q1
  clear hw1 hB1 q1
  cases hd : ts.drop a with
  | nil =>
    rw [hd] at hV
    have HV := Lib.hid hV
    clear hV
    go_enter Tryz.func47, Tryz.ntmps47
    go_upto_region 1 with fail
    rw [← HW1.out]
    go_wp2_with fail
    refine (peek_none X v ts a f _ hd hR1).mono ?_
    rintro e w2 ⟨rfl, hb⟩
    refine ⟨rfl, Bes.of (HB1.out.trans (hb.mono (by omega))), ?_⟩
    rw [HV.out]; rfl
  | cons t r =>
    rw [hd] at hV
    have hdl := drop_at hd
    have HD := Lib.hid hd
    go_enter Tryz.func47, Tryz.ntmps47
    go_upto_region 1 with fail
    rw [← HW1.out]
    go_wp2_with fail
    refine (peek_some X v ts a f _ t r hd hR1).mono ?_
    rintro e w2 ⟨rfl, hb⟩
    simp only [tkA]
    have hR2 := hR1.below hb
    have q2 : w2.heap[w.heap.size]? = some (.cells #[.int .i64 0, .int .i64 0, .string { data := #[] }, .int .i64 0] 59) := by rw [hb.block _ (by omega)]; exact HQ1.out
    have hB2 := HB1.out.trans (hb.mono (by omega))
    go_upto_region 2 with fail
    obtain ⟨w3, hw3⟩ : ∃ w3, w3 = w2.alloc (.cells #[.int .i64 (t.kind : Int), .string { data := t.text.toArray }, .int .i64 t.int, .int .i64 (t.op : Int), .int .i64 (t.off : Int), .int .i64 (t.fin : Int)] 62) := ⟨_, rfl⟩
    rw [← hw3]
    have hz2 := hb.size
    have hR3 : Rdr w3 X v ts a f := by rw [hw3]; exact hR2.alloc _
    have hB3 : Below w.heap.size w w3 := by rw [hw3]; exact hB2.alloc (by omega) _
    have q3 : w3.heap[w.heap.size]? = some (.cells #[.int .i64 0, .int .i64 0, .string { data := #[] }, .int .i64 0] 59) := by rw [hw3, Below.heap_alloc _ _ _ (by omega)]; exact q2
    have t3 : w3.heap[w2.heap.size]? = some (.cells #[.int .i64 (t.kind : Int), .string { data := t.text.toArray }, .int .i64 t.int, .int .i64 (t.op : Int), .int .i64 (t.off : Int), .int .i64 (t.fin : Int)] 62) := by rw [hw3]; exact heap_alloc_new _ _
    have HZ3 : Hid (w3.heap.size = w2.heap.size + 1) := Lib.hid (by rw [hw3]; simp)
    obtain ⟨b, hb0⟩ : ∃ b, b = w2.heap.size := ⟨_, rfl⟩
    rw [← hb0] at t3 ⊢
    have HB0 := Lib.hid hb0
    have HR3 := Lib.hid hR3
    have HB3 := Lib.hid hB3
    have HQ3 := Lib.hid q3
    have HT3 := Lib.hid t3
    obtain ⟨r0, r1, r2, r3, r4, r5, f0, f1, f2, f3, f4, f5⟩ := row6 t3
    clear hR2 q2 hB2 hw3 hb hR1 hb0 hR3 hB3 q3 t3
    go_wp2_with fail
    refine (isTerm_any t.kind vars _).mono ?_
    rintro e w4 ⟨rfl, hq⟩
    rw [hq]
    clear hq w4
    cases hv : Gr.isT vars t.kind with
    | false =>
      have HV : Hid (V = .error (Gr.ref t)) := Lib.hid (by rw [hV]; simp [Gr.termP, hv])
      clear hv hV
      go_wp2_with fail
      refine (refuse_some X v ts a f _ t r HD.out HR3.out).mono ?_
      rintro e w4 ⟨rfl, hb4⟩
      refine ⟨rfl, Bes.of (HB3.out.trans (hb4.mono (HB3.out.size))), ?_⟩
      rw [HV.out]; rfl
    | true =>
      have HV : Hid (V = .ok (Gr.trm t, r)) := Lib.hid (by rw [hV]; simp [Gr.termP, hv])
      have HK := Lib.hid hv
      clear hv hV
      obtain ⟨hlt, _, hd1⟩ := hdl
      have hw : IntKind.i64.wrap ((a : Int) + 1) = ((a + 1 : Nat) : Int) := by rw [IntKind.wrap_i64]; omega
      obtain ⟨c0, c1, c2, c4, fz⟩ := HR3.out.cells
      go_upto_region 5 with fail
      obtain ⟨w4, hw4⟩ : ∃ w4, w4 = w3.setCell ⟨X, 1, none⟩ (.int .i64 ((a : Int) + 1)) := ⟨_, rfl⟩
      rw [← hw4]
      have hB4 : Bes X w w4 := by rw [hw4]; exact (Bes.of HB3.out).set (p := ⟨X, 1, none⟩) (.inl rfl) _
      have hR4 : Rdr w4 X v ts (a + 1) f := by rw [hw4]; exact HR3.out.set (q := a + 1) (by omega)
      have HZ4 : Hid (w4.heap.size = w3.heap.size) := Lib.hid (by rw [hw4]; exact size_set _ _ _)
      have q4 : w4.heap[w.heap.size]? = some (.cells #[.int .i64 0, .int .i64 0, .string { data := #[] }, .int .i64 0] 59) := by rw [hw4, Below.heap_setCell _ _ _ _ (by simp; omega)]; exact HQ3.out
      have t4 : w4.heap[b]? = some (.cells #[.int .i64 (t.kind : Int), .string { data := t.text.toArray }, .int .i64 t.int, .int .i64 (t.op : Int), .int .i64 (t.off : Int), .int .i64 (t.fin : Int)] 62) := by rw [hw4, Below.heap_setCell _ _ _ _ (by have := HB0.out; simp; omega)]; exact HT3.out
      clear hw4 r0 r1 r2 r3 r4 r5 f0 f1 f2 f3 f4 f5 c0 c1 c2 c4 fz
      obtain ⟨r0, r1, r2, r3, r4, r5, f0, f1, f2, f3, f4, f5⟩ := row6 t4
      have HB4 := Lib.hid hB4
      have HR4 := Lib.hid hR4
      have HQ4 := Lib.hid q4
      have HT4 := Lib.hid t4
      clear hB4 hR4 q4 t4
      go_upto_region 6 with fail
      obtain ⟨w5, hw5⟩ : ∃ w5, w5 = w4.alloc (.cells #[.int .i64 4, .int .i64 0, .string { data := t.text.toArray }, .int .i64 (t.off : Int)] 59) := ⟨_, rfl⟩
      rw [← hw5]
      have hB5 : Bes X w w5 := by rw [hw5]; exact HB4.out.alloc _
      have hx5 : w5.heap[X]? = w4.heap[X]? := by rw [hw5]; exact Below.heap_alloc _ _ _ HR4.out.lt
      have q5 : w5.heap[w.heap.size]? = some (.cells #[.int .i64 0, .int .i64 0, .string { data := #[] }, .int .i64 0] 59) := by rw [hw5, Below.heap_alloc _ _ _ (by have := HB0.out; have := HZ4.out; have := HZ3.out; omega)]; exact HQ4.out
      have t5 : w5.heap[b]? = some (.cells #[.int .i64 (t.kind : Int), .string { data := t.text.toArray }, .int .i64 t.int, .int .i64 (t.op : Int), .int .i64 (t.off : Int), .int .i64 (t.fin : Int)] 62) := by rw [hw5, Below.heap_alloc _ _ _ (by have := HB0.out; have := HZ4.out; have := HZ3.out; omega)]; exact HT4.out
      have p5 : w5.heap[w4.heap.size]? = some (.cells #[.int .i64 4, .int .i64 0, .string { data := t.text.toArray }, .int .i64 (t.off : Int)] 59) := by rw [hw5]; exact heap_alloc_new _ _
      obtain ⟨c, hc0⟩ : ∃ c, c = w4.heap.size := ⟨_, rfl⟩
      rw [← hc0] at p5 ⊢
      have HC0 : Hid (w.heap.size < c ∧ X ≠ c ∧ b ≠ c) := Lib.hid (by have := HB0.out; have := HZ4.out; have := HZ3.out; omega)
      clear r0 r1 r2 r3 r4 r5 f0 f1 f2 f3 f4 f5 hw5 hc0
      obtain ⟨r0, r1, r2, r3, r4, r5, f0, f1, f2, f3, f4, f5⟩ := row6 t5
      obtain ⟨p0, p1, p2, p3, e0, e1, e2, e3⟩ := row4 p5
      have HB5 := Lib.hid hB5
      have HX5 := Lib.hid hx5
      have HQ5 := Lib.hid q5
      have HP5 := Lib.hid p5
      have hkk : t.kind = 1 ∨ t.kind = 2 ∨ t.kind = 3 ∨ t.kind = 4 := by
        have := HK.out
        simp [Gr.isT] at this
        omega
      clear hB5 hx5 q5 p5 t5
      rcases hkk with hk | hk | hk | hk
      · have HT : Hid (Gr.trm t = ⟨2, 0, t.text, t.off⟩) := Lib.hid (by simp [Gr.trm, hk])
        have e13 : ((t.kind : Int) == 3) = false := by simp; omega
        have e11 : ((t.kind : Int) == 1) = true := by simp; omega
        have e14 : ((t.kind : Int) == 4) = false := by simp; omega
        clear hk
        go_upto_region 13 with fail
        obtain ⟨w6, hw6⟩ : ∃ w6, w6 = w5.setCell ⟨c, 0, none⟩ (.int .i64 2) := ⟨_, rfl⟩
        rw [← hw6]
        have hB6 : Bes X w w6 := by rw [hw6]; exact HB5.out.set (p := ⟨c, 0, none⟩) (.inr (Nat.le_of_lt HC0.out.1)) _
        have p6 : w6.heap[c]? = some (.cells #[.int .i64 2, .int .i64 0, .string { data := t.text.toArray }, .int .i64 (t.off : Int)] 59) := by rw [hw6]; exact one_set59 HP5.out
        have o6 : ∀ k, k ≠ c → w6.heap[k]? = w5.heap[k]? := fun k hk => by rw [hw6, Below.heap_setCell _ _ _ _ hk]
        have q6 : w6.heap[w.heap.size]? = some (.cells #[.int .i64 0, .int .i64 0, .string { data := #[] }, .int .i64 0] 59) := by rw [o6 _ (by have := HC0.out.1; omega)]; exact HQ5.out
        have x6 : w6.heap[X]? = w4.heap[X]? := by rw [o6 _ HC0.out.2.1]; exact HX5.out
        clear hw6 o6 p0 p1 p2 p3 e0 e1 e2 e3 r0 r1 r2 r3 r4 r5 f0 f1 f2 f3 f4 f5
        obtain ⟨p0, p1, p2, p3, e0, e1, e2, e3⟩ := row4 p6
        obtain ⟨y0, y1, y2, y3, g0, g1, g2, g3⟩ := row4 q6
        have HH := Lib.hid (four_set (x0 := .int .i64 2) (x1 := .int .i64 0) (x2 := .string { data := t.text.toArray }) (x3 := .int .i64 (t.off : Int)) q6)
        have HBZ := Lib.hid (four_bes (x0 := .int .i64 2) (x1 := .int .i64 0) (x2 := .string { data := t.text.toArray }) (x3 := .int .i64 (t.off : Int)) hB6 (Nat.le_refl _))
        have HRZ := Lib.hid (hR.turn HBZ.out (q := a + 1) (by rw [four_oth (by omega), x6]; exact HR4.out.row) (by omega))
        clear hB6 p6 q6 x6
        go_wp2
        refine bodyPost_ret (results_cell_row rfl _ _ w.heap.size 59 #[.int .i64 2, .int .i64 0, .string { data := t.text.toArray }, .int .i64 (t.off : Int)] (0, 0) _ rfl HH.out Tryz.underlying59 rfl Tryz.size59) rfl ?_
        refine ⟨HBZ.out, ?_⟩
        rw [HV.out, HT.out]
        exact ⟨_, a + 1, rfl, rfl, HRZ.out, hd1⟩
      · have HT : Hid (Gr.trm t = ⟨4, 0, t.text, t.off⟩) := Lib.hid (by simp [Gr.trm, hk])
        have e23 : ((t.kind : Int) == 3) = false := by simp; omega
        have e21 : ((t.kind : Int) == 1) = false := by simp; omega
        have e24 : ((t.kind : Int) == 4) = false := by simp; omega
        clear hk
        go_upto_region 13 with fail
        obtain ⟨w6, hw6⟩ : ∃ w6, w6 = w5 := ⟨_, rfl⟩
        rw [← hw6]
        have hB6 : Bes X w w6 := by rw [hw6]; exact HB5.out
        have p6 : w6.heap[c]? = some (.cells #[.int .i64 4, .int .i64 0, .string { data := t.text.toArray }, .int .i64 (t.off : Int)] 59) := by rw [hw6]; exact HP5.out
        have o6 : ∀ k, k ≠ c → w6.heap[k]? = w5.heap[k]? := fun k hk => by rw [hw6]
        have q6 : w6.heap[w.heap.size]? = some (.cells #[.int .i64 0, .int .i64 0, .string { data := #[] }, .int .i64 0] 59) := by rw [o6 _ (by have := HC0.out.1; omega)]; exact HQ5.out
        have x6 : w6.heap[X]? = w4.heap[X]? := by rw [o6 _ HC0.out.2.1]; exact HX5.out
        clear hw6 o6 p0 p1 p2 p3 e0 e1 e2 e3 r0 r1 r2 r3 r4 r5 f0 f1 f2 f3 f4 f5
        obtain ⟨p0, p1, p2, p3, e0, e1, e2, e3⟩ := row4 p6
        obtain ⟨y0, y1, y2, y3, g0, g1, g2, g3⟩ := row4 q6
        have HH := Lib.hid (four_set (x0 := .int .i64 4) (x1 := .int .i64 0) (x2 := .string { data := t.text.toArray }) (x3 := .int .i64 (t.off : Int)) q6)
        have HBZ := Lib.hid (four_bes (x0 := .int .i64 4) (x1 := .int .i64 0) (x2 := .string { data := t.text.toArray }) (x3 := .int .i64 (t.off : Int)) hB6 (Nat.le_refl _))
        have HRZ := Lib.hid (hR.turn HBZ.out (q := a + 1) (by rw [four_oth (by omega), x6]; exact HR4.out.row) (by omega))
        clear hB6 p6 q6 x6
        go_wp2
        refine bodyPost_ret (results_cell_row rfl _ _ w.heap.size 59 #[.int .i64 4, .int .i64 0, .string { data := t.text.toArray }, .int .i64 (t.off : Int)] (0, 0) _ rfl HH.out Tryz.underlying59 rfl Tryz.size59) rfl ?_
        refine ⟨HBZ.out, ?_⟩
        rw [HV.out, HT.out]
        exact ⟨_, a + 1, rfl, rfl, HRZ.out, hd1⟩
      · have HT : Hid (Gr.trm t = ⟨1, t.int, [], t.off⟩) := Lib.hid (by simp [Gr.trm, hk])
        have e33 : ((t.kind : Int) == 3) = true := by simp; omega
        have e31 : ((t.kind : Int) == 1) = false := by simp; omega
        have e34 : ((t.kind : Int) == 4) = false := by simp; omega
        clear hk
        go_upto_region 8 with fail
        go_region
        all_goals
          go_upto_region 13 with fail
          obtain ⟨w6, hw6⟩ : ∃ w6, w6 = (((w5.setCell ⟨c, 0, none⟩ (.int .i64 1)).setCell ⟨c, 1, none⟩ (.int .i64 t.int)).setCell ⟨c, 2, none⟩ (.string { data := #[] })).drew := ⟨_, rfl⟩
          rw [← hw6]
          have hB6 : Bes X w w6 := by rw [hw6]; exact (((HB5.out.set (p := ⟨c, 0, none⟩) (.inr (Nat.le_of_lt HC0.out.1)) _).set (p := ⟨c, 1, none⟩) (.inr (Nat.le_of_lt HC0.out.1)) _).set (p := ⟨c, 2, none⟩) (.inr (Nat.le_of_lt HC0.out.1)) _).drew
          have p6 : w6.heap[c]? = some (.cells #[.int .i64 1, .int .i64 t.int, .string { data := #[] }, .int .i64 (t.off : Int)] 59) := by rw [hw6, drew_heap]; exact three_set59 HP5.out
          have o6 : ∀ k, k ≠ c → w6.heap[k]? = w5.heap[k]? := fun k hk => by
            rw [hw6, drew_heap, Below.heap_setCell _ _ _ _ hk, Below.heap_setCell _ _ _ _ hk, Below.heap_setCell _ _ _ _ hk]
          have q6 : w6.heap[w.heap.size]? = some (.cells #[.int .i64 0, .int .i64 0, .string { data := #[] }, .int .i64 0] 59) := by rw [o6 _ (by have := HC0.out.1; omega)]; exact HQ5.out
          have x6 : w6.heap[X]? = w4.heap[X]? := by rw [o6 _ HC0.out.2.1]; exact HX5.out
          clear hw6 o6 p0 p1 p2 p3 e0 e1 e2 e3 r0 r1 r2 r3 r4 r5 f0 f1 f2 f3 f4 f5
          obtain ⟨p0, p1, p2, p3, e0, e1, e2, e3⟩ := row4 p6
          obtain ⟨y0, y1, y2, y3, g0, g1, g2, g3⟩ := row4 q6
          have HH := Lib.hid (four_set (x0 := .int .i64 1) (x1 := .int .i64 t.int) (x2 := .string { data := #[] }) (x3 := .int .i64 (t.off : Int)) q6)
          have HBZ := Lib.hid (four_bes (x0 := .int .i64 1) (x1 := .int .i64 t.int) (x2 := .string { data := #[] }) (x3 := .int .i64 (t.off : Int)) hB6 (Nat.le_refl _))
          have HRZ := Lib.hid (hR.turn HBZ.out (q := a + 1) (by rw [four_oth (by omega), x6]; exact HR4.out.row) (by omega))
          clear hB6 p6 q6 x6
          go_wp2
          refine bodyPost_ret (results_cell_row rfl _ _ w.heap.size 59 #[.int .i64 1, .int .i64 t.int, .string { data := #[] }, .int .i64 (t.off : Int)] (0, 0) _ rfl HH.out Tryz.underlying59 rfl Tryz.size59) rfl ?_
          refine ⟨HBZ.out, ?_⟩
          rw [HV.out, HT.out]
          exact ⟨_, a + 1, rfl, rfl, HRZ.out, hd1⟩
      · have HT : Hid (Gr.trm t = ⟨3, 0, t.text, t.off⟩) := Lib.hid (by simp [Gr.trm, hk])
        have e43 : ((t.kind : Int) == 3) = false := by simp; omega
        have e41 : ((t.kind : Int) == 1) = false := by simp; omega
        have e44 : ((t.kind : Int) == 4) = true := by simp; omega
        clear hk
        go_upto_region 13 with fail
        obtain ⟨w6, hw6⟩ : ∃ w6, w6 = w5.setCell ⟨c, 0, none⟩ (.int .i64 3) := ⟨_, rfl⟩
        rw [← hw6]
        have hB6 : Bes X w w6 := by rw [hw6]; exact HB5.out.set (p := ⟨c, 0, none⟩) (.inr (Nat.le_of_lt HC0.out.1)) _
        have p6 : w6.heap[c]? = some (.cells #[.int .i64 3, .int .i64 0, .string { data := t.text.toArray }, .int .i64 (t.off : Int)] 59) := by rw [hw6]; exact one_set59 HP5.out
        have o6 : ∀ k, k ≠ c → w6.heap[k]? = w5.heap[k]? := fun k hk => by rw [hw6, Below.heap_setCell _ _ _ _ hk]
        have q6 : w6.heap[w.heap.size]? = some (.cells #[.int .i64 0, .int .i64 0, .string { data := #[] }, .int .i64 0] 59) := by rw [o6 _ (by have := HC0.out.1; omega)]; exact HQ5.out
        have x6 : w6.heap[X]? = w4.heap[X]? := by rw [o6 _ HC0.out.2.1]; exact HX5.out
        clear hw6 o6 p0 p1 p2 p3 e0 e1 e2 e3 r0 r1 r2 r3 r4 r5 f0 f1 f2 f3 f4 f5
        obtain ⟨p0, p1, p2, p3, e0, e1, e2, e3⟩ := row4 p6
        obtain ⟨y0, y1, y2, y3, g0, g1, g2, g3⟩ := row4 q6
        have HH := Lib.hid (four_set (x0 := .int .i64 3) (x1 := .int .i64 0) (x2 := .string { data := t.text.toArray }) (x3 := .int .i64 (t.off : Int)) q6)
        have HBZ := Lib.hid (four_bes (x0 := .int .i64 3) (x1 := .int .i64 0) (x2 := .string { data := t.text.toArray }) (x3 := .int .i64 (t.off : Int)) hB6 (Nat.le_refl _))
        have HRZ := Lib.hid (hR.turn HBZ.out (q := a + 1) (by rw [four_oth (by omega), x6]; exact HR4.out.row) (by omega))
        clear hB6 p6 q6 x6
        go_wp2
        refine bodyPost_ret (results_cell_row rfl _ _ w.heap.size 59 #[.int .i64 3, .int .i64 0, .string { data := t.text.toArray }, .int .i64 (t.off : Int)] (0, 0) _ rfl HH.out Tryz.underlying59 rfl Tryz.size59) rfl ?_
        refine ⟨HBZ.out, ?_⟩
        rw [HV.out, HT.out]
        exact ⟨_, a + 1, rfl, rfl, HRZ.out, hd1⟩
end Go.Proofs.YtncdjkdpoinfaaaGreatDoor
/-
  The parser's values in memory; an atom while its terms come. No condition beyond those that each lemma states.
-/
namespace Go.Proofs.YtncdjkdpoinfaaaGreatDoor
open Go.RowKit Go.Shelf Pl

/-- append at a step of a region that draws. -/
theorem step_append_own {P : Program} (w : World) {ops : Array Oper} {o : Oper} {a : Act} {K : Act → World → Prop} {Q : Exit → Act → World → Prop} {E : Prop} (hgd : o.guard = none) (s x : Operand) (t : TypeId)
    (ho : o.op = .call { callee := .builtin .append, args := #[s, x], argTypes := #[t, t] })
    (base : Nat) (e : TypeId) (i : TypeInfo) (z : Value) (size bytes : Nat) (ht : P.underlying t = some (.slice e)) (hi : P.info? e = some i) (hz : i.zero = some z)
    (hsize : i.size = size) (hby : i.bytes = bytes) (hzs : z.cells.size = size) (hsz : 0 < size)
    (v : Value) (n : Nat) (xs : List Value) (hs : a.eval s = v) (hown : w.ownsRow base e size v n xs)
    (ad : Addr) (m c : Nat) (news : List Value) (hx : a.eval x = .slice (some ad) m c) (hl : news.length = m * size) (hnews : ∀ j u, news[j]? = some u → w.cell? (ad.add j) = some u) (h1 : ∀ u ∈ news, u.oneCell' = true)
    (h63 : n + m ≤ maxLen) (hbytes : (n + m) * bytes ≤ 140737488355328) (hbase : base ≤ w.heap.size)
    (h : ∀ v' w', w'.ownsRow base e size v' (n + m) (xs ++ news) → w.grownBy w' v.ownBlock → (v' = .slice none 0 0 ↔ v = .slice none 0 0 ∧ m = 0) → K (a.put o.dst v') w') :
    if Region.wanted o (yielded ops a.tmps) = true then Oper.wp P o a w K Q else E := by
  have hw : Region.wanted o (yielded ops a.tmps) = true := by simp [Region.wanted, hgd]
  rw [if_pos hw]
  exact wp_append_own w s x t ho base e i z size bytes ht hi hz hsize hby hzs hsz v n xs hs hown ad m c news hx hl hnews h1 h63 hbytes hbase h

theorem drew_below (w : World) (B : Nat) : Below B w w.drew := ⟨rfl, rfl, rfl, Nat.le_refl _, fun _ _ => rfl⟩
theorem drop_next {ts r : List Tk} {t : Tk} {q q' : Nat} (h1 : ts.drop q = t :: r) (h2 : ts.drop q' = r) (hle : q' ≤ ts.length) : q' = q + 1 := by
  have l1 := congrArg List.length h1
  have l2 := congrArg List.length h2
  simp only [List.length_drop, List.length_cons] at l1 l2
  omega
theorem Rdr.atOf {w : World} {X : Nat} {v : Value} {ts : List Tk} {a : Nat} {f : Gr.Flt} (h : Rdr w X v ts a f) : atOf w X = a := by
  unfold YtncdjkdpoinfaaaGreatDoor.atOf
  rw [h.cells.2.1]; rfl
theorem rdr_less {w w' : World} {X a b n : Nat} {v : Value} {ts : List Tk} {f : Gr.Flt} (h : atOf w X = a) (h' : Rdr w' X v ts b f) (hab : a < b) (hn : ts.length = n) : n - atOf w' X < n - atOf w X := by
  have := h'.le
  rw [h, h'.atOf]; omega

def flatX (xs : List Gr.Trm) : List Value := xs.flatMap trmL
theorem flatX_len (xs : List Gr.Trm) : (flatX xs).length = xs.length * 4 := by
  induction xs with
  | nil => rfl
  | cons t ts ih => simp only [flatX, List.flatMap_cons, List.length_append, List.length_cons] at ih ⊢; rw [ih]; simp only [trmL, List.length_cons, List.length_nil]; omega
theorem flatX_snoc (xs : List Gr.Trm) (x : Gr.Trm) : flatX (xs ++ [x]) = flatX xs ++ trmL x := by simp [flatX]
theorem trmL_one (x : Gr.Trm) : ∀ u ∈ trmL x, u.oneCell' = true := by
  intro u hu
  simp only [trmL, List.mem_cons, List.not_mem_nil, or_false] at hu
  rcases hu with rfl | rfl | rfl | rfl <;> rfl
theorem Tryz.info59 : (Tryz.prog.info? 59).map (fun i => (i.zero, i.size, i.bytes)) = some (some (.agg #[.int .i64 0, .int .i64 0, .string noS, .int .i64 0]), 4, 40) := by kernel_rfl
theorem Tryz.size_32 : (Tryz.prog.info? 32).map (·.size) = some 3 := by kernel_rfl
/-- An atom that was handed back. -/
def AtmV (B : Nat) (x : Gr.Atm) (w : World) (u : Value) : Prop := ∃ sl, u = .agg #[.string ⟨x.pred.toArray⟩, sl, .int .i64 (x.off : Int)] ∧ w.ownsRow B 59 4 sl x.args.length (flatX x.args)
/-- What reading an atom ends with. -/
def AtomIs (X : Nat) (v : Value) (ts : List Tk) (f : Gr.Flt) (w : World) (res : Gr.Res Gr.Atm) (e : Ending) (w' : World) : Prop := ParIs X v ts f w (AtmV w.heap.size) res e w'
theorem row32 {w : World} {B : Nat} {a b c : Value} (h : w.heap[B]? = some (.cells #[a, b, c] 32)) :
    w.cell? ⟨B, 0, none⟩ = some a ∧ w.cell? ⟨B, 1, none⟩ = some b ∧ w.cell? ⟨B, 2, none⟩ = some c ∧
    w.frozen? ⟨B, 0, none⟩ = false ∧ w.frozen? ⟨B, 1, none⟩ = false ∧ w.frozen? ⟨B, 2, none⟩ = false := by
  refine ⟨?_, ?_, ?_, ?_, ?_, ?_⟩ <;> simp only [World.cell?, World.frozen?, h] <;> rfl
theorem tri_set {w : World} {R : Nat} {t : TypeId} {x0 x1 x2 u0 u1 u2 : Value} (h : w.heap[R]? = some (.cells #[u0, u1, u2] t)) :
    (((w.setCell ⟨R, 0, none⟩ x0).setCell ⟨R, 1, none⟩ x1).setCell ⟨R, 2, none⟩ x2).heap[R]? = some (.cells #[x0, x1, x2] t) := by
  simp [World.setCell, Array.getElem?_modify, h]
theorem tri_bes {w0 w : World} {X R : Nat} {x0 x1 x2 : Value} (h : Bes X w0 w) (hR : w0.heap.size ≤ R) :
    Bes X w0 (((w.setCell ⟨R, 0, none⟩ x0).setCell ⟨R, 1, none⟩ x1).setCell ⟨R, 2, none⟩ x2) :=
  ((h.set (.inr hR) _).set (.inr hR) _).set (.inr hR) _
theorem tri_oth {w : World} {k R : Nat} {x0 x1 x2 : Value} (h : k ≠ R) :
    (((w.setCell ⟨R, 0, none⟩ x0).setCell ⟨R, 1, none⟩ x1).setCell ⟨R, 2, none⟩ x2).heap[k]? = w.heap[k]? := by
  rw [Below.heap_setCell _ _ _ _ h, Below.heap_setCell _ _ _ _ h, Below.heap_setCell _ _ _ _ h]
theorem tri_kt {T : TypeId → Prop} {w : World} {R : Nat} {t0 : TypeId} {x0 x1 x2 u0 u1 u2 : Value} (h : w.heap[R]? = some (.cells #[u0, u1, u2] t0)) (hT : ¬ T t0) :
    Kt T w (((w.setCell ⟨R, 0, none⟩ x0).setCell ⟨R, 1, none⟩ x1).setCell ⟨R, 2, none⟩ x2) := fun k c t e ht => by
  rw [tri_oth (fun hk => by rw [hk, h] at e; simp at e; exact hT (by rw [e.2]; exact ht))]; exact e

/-- Memory while an atom's terms come. -/
structure AtIn (w0 : World) (X c : Nat) (v : Value) (ts : List Tk) (f : Gr.Flt) (pred : List UInt8) (off : Nat) (xs : List Gr.Trm) (q : Nat) (w : World) : Prop where
  bes : Bes X w0 w
  rdr : Rdr w X v ts q f
  res : w.heap[w0.heap.size]? = some (.cells #[.string { data := #[] }, .slice none 0 0, .int .i64 0] 32)
  blk : ∃ sl, w.heap[c]? = some (.cells #[.string ⟨pred.toArray⟩, sl, .int .i64 (off : Int)] 32) ∧ w.ownsRow w0.heap.size 59 4 sl xs.length (flatX xs)
  hX : X < w0.heap.size
  hc : w0.heap.size < c
section
variable {w0 w w' : World} {X c : Nat} {v : Value} {ts : List Tk} {f : Gr.Flt} {pred : List UInt8} {off q q' : Nat} {xs : List Gr.Trm}
theorem AtIn.turn (h : AtIn w0 X c v ts f pred off xs q w) (hb : Bes X w w') (hr : Rdr w' X v ts q' f) : AtIn w0 X c v ts f pred off xs q' w' := by
  have k : Kt (fun t => t ≠ 90) w w' := Kt.bes hb h.rdr.row (by simp)
  obtain ⟨sl, h1, h2⟩ := h.blk
  exact ⟨h.bes.trans hb, hr, k _ _ _ h.res (by decide), ⟨sl, k _ _ _ h1 (by decide), k.own (by decide) h2⟩, h.hX, h.hc⟩
theorem AtIn.below (h : AtIn w0 X c v ts f pred off xs q w) (hb : Below w.heap.size w w') : AtIn w0 X c v ts f pred off xs q w' := h.turn (Bes.of hb) (h.rdr.below hb)
theorem AtIn.next (h : AtIn w0 X c v ts f pred off xs q w) (hq : q < ts.length) : AtIn w0 X c v ts f pred off xs (q + 1) (w.setCell ⟨X, 1, none⟩ (.int .i64 ((q : Int) + 1))) :=
  h.turn ((Bes.refl X w).set (p := ⟨X, 1, none⟩) (.inl rfl) _) (h.rdr.set (q := q + 1) hq)
theorem AtIn.more (h : AtIn w0 X c v ts f pred off xs q w) {o : Obj} {sl v' : Value} {w5 : World} {x : Gr.Trm} (h1 : w.heap[c]? = some (.cells #[.string ⟨pred.toArray⟩, sl, .int .i64 (off : Int)] 32)) (h2 : w.ownsRow w0.heap.size 59 4 sl xs.length (flatX xs))
    (hg : (w.alloc o).grownBy w5 sl.ownBlock) (ho : w5.ownsRow w0.heap.size 59 4 v' (xs.length + 1) (flatX xs ++ trmL x)) :
    AtIn w0 X c v ts f pred off (xs ++ [x]) q (w5.setCell ⟨c, 1, none⟩ v') ∧ w5.heap[c]? = some (.cells #[.string ⟨pred.toArray⟩, sl, .int .i64 (off : Int)] 32) := by
  have ha := h2.alloc o
  have k : Kt (fun t => t ≠ 59) w w5 := (Kt.alloc w o).trans (Kt.grown hg ha (by simp))
  have c5 := k _ _ _ h1 (by decide)
  have ks : Kt (fun t => t ≠ 32) w5 (w5.setCell ⟨c, 1, none⟩ v') := Kt.set (p := ⟨c, 1, none⟩) c5 (by simp)
  refine ⟨⟨(grown_bes (h.bes.alloc o) hg ha (Nat.le_refl _)).set (p := ⟨c, 1, none⟩) (.inr (Nat.le_of_lt h.hc)) _, ((h.rdr.kt k (by decide) (by decide)).kt ks (by decide) (by decide)), ?_, ⟨v', ?_, ?_⟩, h.hX, h.hc⟩, c5⟩
  · rw [Below.heap_setCell _ _ _ _ (by have := h.hc; simp; omega)]
    exact k _ _ _ h.res (by decide)
  · simp [World.setCell, Array.getElem?_modify, c5]
  · rw [List.length_append, List.length_singleton, flatX_snoc]
    exact ks.own (by decide) ho
end
end Go.Proofs.YtncdjkdpoinfaaaGreatDoor
