/-
  The walks of lex.Each at a text that is too long, of lex.Scan and of lex.Blank. Conditions: those that each theorem states.
-/
import Derived.Test.YthidnjnaifcfoaaDoorW17
namespace Go.Proofs.YthidnjnaifcfoaaDoor
open Go.RowKit Go.Shelf Pl

theorem results_slot_row {P : Program} {fn : Func} {p u : Tmp} {tz : TypeId} (h : fn.results = #[.tmp p, .cell u tz]) (tmps : Array Value) (w : World) (v : Value) (g2 : Nat) (t2 : TypeId) (cs2 : Array Value) (fr2 : Nat × Nat) (d2 : TypeDesc)
    (hp : tmps.getD p undef = v)
    (hp2 : tmps.getD u undef = .pointer (some ⟨g2, 0, none⟩)) (hg2 : w.heap[g2]? = some (.cells cs2 t2 fr2))
    (hu2 : P.underlying tz = some d2) (hd2 : (match d2 with | .struct _ | .array _ _ => true | _ => false) = true) (hi2 : (P.info? tz).map (·.size) = some cs2.size) :
    (results fn tmps).run P w = .ok (.tuple #[v, .agg cs2]) w := by
  have hp' : tmps[p]?.getD undef = v := by simpa using hp
  have hp2' : tmps[u]?.getD undef = .pointer (some ⟨g2, 0, none⟩) := by simpa using hp2
  simp [results, h, hp', hp2', asAddr, run_loadVar_row w g2 t2 tz cs2 fr2 d2 hg2 hu2 hd2 hi2]

set_option maxRecDepth 100000 in
set_option maxHeartbeats 3200000 in
theorem each_long (s : ByteArray) (y : Value) (w : World) (hs : ¬ s.size ≤ 65536) :
    Calls Tryd.prog 7 #[.string s, y] w fun e w' => e = .returned (FaultV 1 0) ∧ Below w.heap.size w w' := by
  have hgt : decide ((s.size : Int) > 65536) = true := decide_eq_true (by omega)
  go_enter Tryd.func7, Tryd.ntmps7
  go_wp2
  refine bodyPost_ret (results_cell_row rfl _ _ w.heap.size 25 #[.int .i64 1, .int .i64 0, .int .i64 0] (0, 0) _ rfl (heap_alloc_new _ _) Tryd.underlying25 rfl Tryd.size25) rfl ?_
  exact ⟨rfl, up_alloc _ _⟩

set_option maxRecDepth 100000 in
set_option maxHeartbeats 3200000 in
theorem scan_any (s : ByteArray) (B : Nat) (ts : List Tk) (f : Nat × Nat) (w : World) (hs : s.size ≤ 65536) (hSc : Sc (L s) 0 ts f) (hG : Gl B w) :
    Calls Tryd.prog 4 #[.string s] w fun e w' => ∃ v, e = .returned (.tuple #[v, FaultV f.1 f.2]) ∧ w'.ownsRow w.heap.size 32 6 v ts.length (flatT ts) ∧ Below w.heap.size w w' := by
  have HSC := Lib.hid hSc
  have hBz := hG.lt
  obtain ⟨w1, hw1⟩ : ∃ w1, w1 = (w.alloc (.cells #[.int .i64 0, .int .i64 0, .int .i64 0] 25)).alloc (.cells #[.slice none 0 0] 22) := ⟨_, rfl⟩
  have h1 : Below w.heap.size w w1 := by rw [hw1]; exact (up_alloc _ _).alloc (by simp) _
  have hr1 : w1.heap[w.heap.size]? = some (.cells #[.int .i64 0, .int .i64 0, .int .i64 0] 25) := by rw [hw1]; exact (two_heap _ _ rfl).1
  have hC1 : w1.heap[w.heap.size + 1]? = some (.cells #[.slice none 0 0] 22) := by rw [hw1]; exact (two_heap _ _ rfl).2
  have HG1 := Lib.hid (hG.below (h1.mono hBz))
  have H1 := Lib.hid h1
  have HR1 := Lib.hid hr1
  have HC1 := Lib.hid hC1
  have HW1 := Lib.hid hw1
  clear hSc hG h1 hr1 hC1 hw1
  go_enter Tryd.func4, Tryd.ntmps4
  go_upto_region 2 with fail
  rw [← HW1.out]
  go_wp2_with fail
  refine (each_any s (w.heap.size + 1) B ts f _ hs HSC.out HC1.out HG1.out (by omega)).mono ?_
  rintro e w5 ⟨he, ⟨v, hv, ho⟩, hb⟩
  obtain ⟨fc, fo⟩ := f
  have he2 : e = .returned (.agg #[.int .i64 (fc : Int), .int .i64 0, .int .i64 (fo : Int)]) := he
  subst he2
  clear he
  have hsz1 : w1.heap.size = w.heap.size + 2 := by rw [HW1.out]; simp
  have hr5 : w5.heap[w.heap.size]? = some (.cells #[.int .i64 0, .int .i64 0, .int .i64 0] 25) := by rw [hb.block _ (by omega)]; exact HR1.out
  have h5z := hb.size
  go_upto_region 3 with fail
  obtain ⟨w6, hw6⟩ : ∃ w6, w6 = w5.alloc (.cells #[.int .i64 (fc : Int), .int .i64 0, .int .i64 (fo : Int)] 25) := ⟨_, rfl⟩
  rw [← hw6]
  have q1 : w6.heap[w.heap.size]? = some (.cells #[.int .i64 0, .int .i64 0, .int .i64 0] 25) := by rw [hw6, Below.heap_alloc _ _ _ (by omega)]; exact hr5
  have q2 : w6.heap[w5.heap.size]? = some (.cells #[.int .i64 (fc : Int), .int .i64 0, .int .i64 (fo : Int)] 25) := by rw [hw6]; exact heap_alloc_new _ _
  have q3 : w6.heap[w.heap.size + 1]? = some (.cells #[v] 22) := by rw [hw6, Below.heap_alloc _ _ _ (by omega)]; exact hv
  have q4 : w6.cell? ⟨w.heap.size + 1, 0, none⟩ = some v := by simp only [World.cell?, q3]; rfl
  obtain ⟨a0, a1, a2, b0, b1, b2⟩ := row3 q1
  obtain ⟨c0, c1, c2, d0, d1, d2⟩ := row3 q2
  have ho6 : w6.ownsRow w.heap.size 32 6 v ts.length (flatT ts) := by rw [hw6]; exact (World.ownsRow.mono ho (by omega)).alloc _
  have HB6 : Hid (Below w.heap.size w w6) := Lib.hid (by rw [hw6]; exact (H1.out.trans (hb.mono (by omega))).alloc (by omega) _)
  have HH := Lib.hid (three_set (x := .int .i64 (fc : Int)) (y := .int .i64 0) (z := .int .i64 fo) q1)
  have HO6 := Lib.hid (own_oth (w' := ((w6.setCell ⟨w.heap.size, 0, none⟩ (.int .i64 (fc : Int))).setCell ⟨w.heap.size, 1, none⟩ (.int .i64 0)).setCell ⟨w.heap.size, 2, none⟩ (.int .i64 (fo : Int))) ho6 (fun k c hc => by
    have hk : k ≠ w.heap.size := fun e => by rw [e, q1] at hc; simp at hc
    rw [Below.heap_setCell _ _ _ _ hk, Below.heap_setCell _ _ _ _ hk, Below.heap_setCell _ _ _ _ hk]))
  clear q1 q2 q3 hw6 hv ho hb hr5 ho6
  have HH2 : Hid ((((w6.setCell ⟨w.heap.size, 0, none⟩ (.int .i64 (fc : Int))).setCell ⟨w.heap.size, 1, none⟩ (.int .i64 0)).setCell ⟨w.heap.size, 2, none⟩ (.int .i64 (fo : Int))).drew.heap[w.heap.size]? = some (.cells #[.int .i64 (fc : Int), .int .i64 0, .int .i64 (fo : Int)] 25)) := Lib.hid (by rw [drew_heap]; exact HH.out)
  go_region
  all_goals
    go_wp2
    refine bodyPost_ret (results_slot_row rfl _ _ v w.heap.size 25 _ (0, 0) _ rfl rfl HH2.out Tryd.underlying25 rfl Tryd.size25) rfl ?_
    exact ⟨v, rfl, HO6.out.drew, (((HB6.out.setCell (Nat.le_refl _) _).setCell (Nat.le_refl _) _).setCell (Nat.le_refl _) _).drew⟩

set_option maxRecDepth 100000 in
set_option maxHeartbeats 3200000 in
theorem scan_long (s : ByteArray) (w : World) (hs : ¬ s.size ≤ 65536) :
    Calls Tryd.prog 4 #[.string s] w fun e w' => e = .returned (.tuple #[.slice none 0 0, FaultV 1 0]) ∧ Below w.heap.size w w' := by
  obtain ⟨w1, hw1⟩ : ∃ w1, w1 = (w.alloc (.cells #[.int .i64 0, .int .i64 0, .int .i64 0] 25)).alloc (.cells #[.slice none 0 0] 22) := ⟨_, rfl⟩
  have h1 : Below w.heap.size w w1 := by rw [hw1]; exact (up_alloc _ _).alloc (by simp) _
  have hr1 : w1.heap[w.heap.size]? = some (.cells #[.int .i64 0, .int .i64 0, .int .i64 0] 25) := by rw [hw1]; exact (two_heap _ _ rfl).1
  have hC1 : w1.heap[w.heap.size + 1]? = some (.cells #[.slice none 0 0] 22) := by rw [hw1]; exact (two_heap _ _ rfl).2
  have H1 := Lib.hid h1
  have HR1 := Lib.hid hr1
  have HC1 := Lib.hid hC1
  have HW1 := Lib.hid hw1
  clear h1 hr1 hC1 hw1
  go_enter Tryd.func4, Tryd.ntmps4
  go_upto_region 2 with fail
  rw [← HW1.out]
  go_wp2_with fail
  refine (each_long s _ _ hs).mono ?_
  rintro e w5 ⟨he, hb⟩
  obtain ⟨fc, hfc⟩ : ∃ fc : Nat, fc = 1 := ⟨_, rfl⟩
  obtain ⟨fo, hfo⟩ : ∃ fo : Nat, fo = 0 := ⟨_, rfl⟩
  obtain ⟨v, hv0⟩ : ∃ v : Value, v = .slice none 0 0 := ⟨_, rfl⟩
  have he2 : e = .returned (.agg #[.int .i64 (fc : Int), .int .i64 0, .int .i64 (fo : Int)]) := by rw [hfc, hfo]; exact he
  have HV0 := Lib.hid hv0
  have HFC := Lib.hid hfc
  have HFO := Lib.hid hfo
  subst he2
  clear he hfc hfo
  have hsz1 : w1.heap.size = w.heap.size + 2 := by rw [HW1.out]; simp
  have hr5 : w5.heap[w.heap.size]? = some (.cells #[.int .i64 0, .int .i64 0, .int .i64 0] 25) := by rw [hb.block _ (by omega)]; exact HR1.out
  have h5z := hb.size
  have hv : w5.heap[w.heap.size + 1]? = some (.cells #[v] 22) := by rw [hv0, hb.block _ (by omega)]; exact HC1.out
  clear hv0
  go_upto_region 3 with fail
  obtain ⟨w6, hw6⟩ : ∃ w6, w6 = w5.alloc (.cells #[.int .i64 (fc : Int), .int .i64 0, .int .i64 (fo : Int)] 25) := ⟨_, rfl⟩
  rw [← hw6]
  have q1 : w6.heap[w.heap.size]? = some (.cells #[.int .i64 0, .int .i64 0, .int .i64 0] 25) := by rw [hw6, Below.heap_alloc _ _ _ (by omega)]; exact hr5
  have q2 : w6.heap[w5.heap.size]? = some (.cells #[.int .i64 (fc : Int), .int .i64 0, .int .i64 (fo : Int)] 25) := by rw [hw6]; exact heap_alloc_new _ _
  have q3 : w6.heap[w.heap.size + 1]? = some (.cells #[v] 22) := by rw [hw6, Below.heap_alloc _ _ _ (by omega)]; exact hv
  have q4 : w6.cell? ⟨w.heap.size + 1, 0, none⟩ = some v := by simp only [World.cell?, q3]; rfl
  obtain ⟨a0, a1, a2, b0, b1, b2⟩ := row3 q1
  obtain ⟨c0, c1, c2, d0, d1, d2⟩ := row3 q2
  have HB6 : Hid (Below w.heap.size w w6) := Lib.hid (by rw [hw6]; exact (H1.out.trans (hb.mono (by omega))).alloc (by omega) _)
  have HH := Lib.hid (three_set (x := .int .i64 (fc : Int)) (y := .int .i64 0) (z := .int .i64 fo) q1)
  clear q1 q2 q3 hw6 hv hb hr5
  have HH2 : Hid ((((w6.setCell ⟨w.heap.size, 0, none⟩ (.int .i64 (fc : Int))).setCell ⟨w.heap.size, 1, none⟩ (.int .i64 0)).setCell ⟨w.heap.size, 2, none⟩ (.int .i64 (fo : Int))).drew.heap[w.heap.size]? = some (.cells #[.int .i64 (fc : Int), .int .i64 0, .int .i64 (fo : Int)] 25)) := Lib.hid (by rw [drew_heap]; exact HH.out)
  go_region
  all_goals
    go_wp2
    refine bodyPost_ret (results_slot_row rfl _ _ v w.heap.size 25 _ (0, 0) _ rfl rfl HH2.out Tryd.underlying25 rfl Tryd.size25) rfl ?_
    exact ⟨by rw [← HV0.out, HFC.out, HFO.out]; rfl, (((HB6.out.setCell (Nat.le_refl _) _).setCell (Nat.le_refl _) _).setCell (Nat.le_refl _) _).drew⟩

set_option maxRecDepth 100000 in
set_option maxHeartbeats 3200000 in
theorem blank_any (s : ByteArray) (a b : Nat) (w : World) (hs : s.size ≤ 65536) (hab : a ≤ b) (hb : b ≤ s.size) (hg : gap .out (L (s.extract a b)) = .inl []) :
    Calls Tryd.prog 6 #[.string s, .int .i64 (a : Int), .int .i64 (b : Int)] w fun e w' => e = .returned (.bool true) ∧ Below w.heap.size w w' := by
  have d1 : decide ((s.size : Int) > 65536) = false := decide_eq_false (by omega)
  have d2 : decide ((a : Int) < 0) = false := decide_eq_false (by omega)
  have d3 : decide ((a : Int) > (b : Int)) = false := decide_eq_false (by omega)
  have d4 : decide ((b : Int) > (s.size : Int)) = false := decide_eq_false (by omega)
  have k0 : (0 : Int) ≤ (a : Int) := by omega
  have k1 : (a : Int) ≤ (b : Int) := by omega
  have k2 : (b : Int) ≤ (s.size : Int) := by omega
  obtain ⟨z, hz⟩ : ∃ z, z = s.extract a b := ⟨_, rfl⟩
  rw [← hz] at hg
  have hzs : z.size ≤ 65536 := by rw [← L_len, hz, cut_drop, List.length_take, List.length_drop, L_len]; omega
  have HZ := Lib.hid hz
  have HG := Lib.hid hg
  clear hz hg
  go_enter Tryd.func6, Tryd.ntmps6
  go_upto_region 4 with fail
  rw [← HZ.out]
  obtain ⟨w1, hw1⟩ : ∃ w1, w1 = w.alloc (.cells #[.string z, .int .i64 0] 41) := ⟨_, rfl⟩
  rw [← hw1]
  have HR1 : Hid (RdB w1 w.heap.size z 0) := Lib.hid (by rw [hw1]; exact heap_alloc_new _ _)
  have HB1 : Hid (Below w.heap.size w w1) := Lib.hid (by rw [hw1]; exact up_alloc _ _)
  clear hw1
  go_wp2_with fail
  refine (gap_any z 0 w.heap.size _ (Nat.zero_le _) hzs HR1.out).mono ?_
  rintro e w2 ⟨he, hb2⟩
  rw [List.drop_zero, HG.out] at he
  obtain ⟨he2, hr2⟩ := (show e = .returned (.tuple #[.int .i64 ((z.size - ([] : List UInt8).length : Nat) : Int), .bool true]) ∧ RdB w2 w.heap.size z (z.size - ([] : List UInt8).length) from he)
  simp only [List.length_nil, Nat.sub_zero] at he2 hr2
  subst he2
  obtain ⟨r0, r1⟩ := hr2.rd
  have HB2 := Lib.hid (HB1.out.trans (hb2.below (Nat.le_refl _) HB1.out.size))
  have k5 : ((z.size : Int) == (z.size : Int)) = true := by simp
  clear he hr2 hb2
  go_wp2_with fail
  go_quiet (fail)
  go_wp2
  go_ret
  exact ⟨rfl, below_drewN HB2.out⟩
end Go.Proofs.YthidnjnaifcfoaaDoor
