/-
  Texts of this seat, one behind the other: W18, W19, W20, W21, W22. Conditions: those that each of them states.
-/
import Derived.Test.YtncdjkdpoinfaaaGreatDoorG9
import Derived.StillTailTactics
/-
  The walks of lex.Each at a text that is too long, of lex.Scan and of lex.Blank. Conditions: those that each theorem states.
-/
namespace Go.Proofs.YtncdjkdpoinfaaaGreatDoor
open Go.RowKit Go.Shelf Pl

theorem results_slot_row {P : Program} {fn : Func} {p u : Tmp} {tz : TypeId} (h : fn.results = #[.tmp p, .cell u tz]) (tmps : Array Value) (w : World) (v : Value) (g2 : Nat) (t2 : TypeId) (cs2 : Array Value) (fr2 : Nat × Nat) (d2 : TypeDesc)
    (hp : tmps.getD p undef = v)
    (hp2 : tmps.getD u undef = .pointer (some ⟨g2, 0, none⟩)) (hg2 : w.heap[g2]? = some (.cells cs2 t2 fr2))
    (hu2 : P.underlying tz = some d2) (hd2 : (match d2 with | .struct _ | .array _ _ => true | _ => false) = true) (hi2 : (P.info? tz).map (·.size) = some cs2.size) :
    (results fn tmps).run P w = .ok (.tuple #[v, .agg cs2]) w := by
  have hp' : tmps[p]?.getD undef = v := by simpa using hp
  have hp2' : tmps[u]?.getD undef = .pointer (some ⟨g2, 0, none⟩) := by simpa using hp2
  simp [results, h, hp', hp2', asAddr, run_loadVar_row w g2 t2 tz cs2 fr2 d2 hg2 hu2 hd2 hi2]

set_option maxRecDepth 100000 in
set_option maxHeartbeats 3200000 in
theorem each_long (s : ByteArray) (y : Value) (w : World) (hs : ¬ s.size ≤ 65536) :
    Calls Tryz.prog 38 #[.string s, y] w fun e w' => e = .returned (FaultV 1 0) ∧ Below w.heap.size w w' := by
  have hgt : decide ((s.size : Int) > 65536) = true := decide_eq_true (by omega)
  go_enter Tryz.func38, Tryz.ntmps38
  go_wp2
  refine bodyPost_ret (results_cell_row rfl _ _ w.heap.size 27 #[.int .i64 1, .int .i64 0, .int .i64 0] (0, 0) _ rfl (heap_alloc_new _ _) Tryz.underlying27 rfl Tryz.size25) rfl ?_
  exact ⟨rfl, up_alloc _ _⟩

set_option maxRecDepth 100000 in
set_option maxHeartbeats 3200000 in
theorem scan_any (s : ByteArray) (B : Nat) (ts : List Tk) (f : Nat × Nat) (w : World) (hs : s.size ≤ 65536) (hSc : Sc (L s) 0 ts f) (hG : Gl B w) :
    Calls Tryz.prog 21 #[.string s] w fun e w' => ∃ v, e = .returned (.tuple #[v, FaultV f.1 f.2]) ∧ w'.ownsRow w.heap.size 62 6 v ts.length (flatT ts) ∧ Below w.heap.size w w' := by
  have HSC := Lib.hid hSc
  have hBz := hG.lt
  obtain ⟨w1, hw1⟩ : ∃ w1, w1 = (w.alloc (.cells #[.int .i64 0, .int .i64 0, .int .i64 0] 27)).alloc (.cells #[.slice none 0 0] 36) := ⟨_, rfl⟩
  have h1 : Below w.heap.size w w1 := by rw [hw1]; exact (up_alloc _ _).alloc (by simp) _
  have hr1 : w1.heap[w.heap.size]? = some (.cells #[.int .i64 0, .int .i64 0, .int .i64 0] 27) := by rw [hw1]; exact (two_heap _ _ rfl).1
  have hC1 : w1.heap[w.heap.size + 1]? = some (.cells #[.slice none 0 0] 36) := by rw [hw1]; exact (two_heap _ _ rfl).2
  have HG1 := Lib.hid (hG.below (h1.mono hBz))
  have H1 := Lib.hid h1
  have HR1 := Lib.hid hr1
  have HC1 := Lib.hid hC1
  have HW1 := Lib.hid hw1
  clear hSc hG h1 hr1 hC1 hw1
  go_enter Tryz.func21, Tryz.ntmps21
  go_upto_region 2 with fail
  rw [← HW1.out]
  go_wp2_with fail
  refine (each_any s (w.heap.size + 1) B ts f _ hs HSC.out HC1.out HG1.out (by omega)).mono ?_
  rintro e w5 ⟨he, ⟨v, hv, ho⟩, hb⟩
  obtain ⟨fc, fo⟩ := f
  have he2 : e = .returned (.agg #[.int .i64 (fc : Int), .int .i64 0, .int .i64 (fo : Int)]) := he
  subst he2
  clear he
  have hsz1 : w1.heap.size = w.heap.size + 2 := by rw [HW1.out]; simp
  have hr5 : w5.heap[w.heap.size]? = some (.cells #[.int .i64 0, .int .i64 0, .int .i64 0] 27) := by rw [hb.block _ (by omega)]; exact HR1.out
  have h5z := hb.size
  go_upto_region 3 with fail
  obtain ⟨w6, hw6⟩ : ∃ w6, w6 = w5.alloc (.cells #[.int .i64 (fc : Int), .int .i64 0, .int .i64 (fo : Int)] 27) := ⟨_, rfl⟩
  rw [← hw6]
  have q1 : w6.heap[w.heap.size]? = some (.cells #[.int .i64 0, .int .i64 0, .int .i64 0] 27) := by rw [hw6, Below.heap_alloc _ _ _ (by omega)]; exact hr5
  have q2 : w6.heap[w5.heap.size]? = some (.cells #[.int .i64 (fc : Int), .int .i64 0, .int .i64 (fo : Int)] 27) := by rw [hw6]; exact heap_alloc_new _ _
  have q3 : w6.heap[w.heap.size + 1]? = some (.cells #[v] 36) := by rw [hw6, Below.heap_alloc _ _ _ (by omega)]; exact hv
  have q4 : w6.cell? ⟨w.heap.size + 1, 0, none⟩ = some v := by simp only [World.cell?, q3]; rfl
  obtain ⟨a0, a1, a2, b0, b1, b2⟩ := row3 q1
  obtain ⟨c0, c1, c2, d0, d1, d2⟩ := row3 q2
  have ho6 : w6.ownsRow w.heap.size 62 6 v ts.length (flatT ts) := by rw [hw6]; exact (World.ownsRow.mono ho (by omega)).alloc _
  have HB6 : Hid (Below w.heap.size w w6) := Lib.hid (by rw [hw6]; exact (H1.out.trans (hb.mono (by omega))).alloc (by omega) _)
  have HH := Lib.hid (three_set (x := .int .i64 (fc : Int)) (y := .int .i64 0) (z := .int .i64 fo) q1)
  have HO6 := Lib.hid (own_oth (w' := ((w6.setCell ⟨w.heap.size, 0, none⟩ (.int .i64 (fc : Int))).setCell ⟨w.heap.size, 1, none⟩ (.int .i64 0)).setCell ⟨w.heap.size, 2, none⟩ (.int .i64 (fo : Int))) ho6 (fun k c hc => by
    have hk : k ≠ w.heap.size := fun e => by rw [e, q1] at hc; simp at hc
    rw [Below.heap_setCell _ _ _ _ hk, Below.heap_setCell _ _ _ _ hk, Below.heap_setCell _ _ _ _ hk]))
  clear q1 q2 q3 hw6 hv ho hb hr5 ho6
  have HH2 : Hid ((((w6.setCell ⟨w.heap.size, 0, none⟩ (.int .i64 (fc : Int))).setCell ⟨w.heap.size, 1, none⟩ (.int .i64 0)).setCell ⟨w.heap.size, 2, none⟩ (.int .i64 (fo : Int))).drew.heap[w.heap.size]? = some (.cells #[.int .i64 (fc : Int), .int .i64 0, .int .i64 (fo : Int)] 27)) := Lib.hid (by rw [drew_heap]; exact HH.out)
  go_region
  all_goals
    go_wp2
    refine bodyPost_ret (results_slot_row rfl _ _ v w.heap.size 27 _ (0, 0) _ rfl rfl HH2.out Tryz.underlying27 rfl Tryz.size25) rfl ?_
    exact ⟨v, rfl, HO6.out.drew, (((HB6.out.setCell (Nat.le_refl _) _).setCell (Nat.le_refl _) _).setCell (Nat.le_refl _) _).drew⟩

set_option maxRecDepth 100000 in
set_option maxHeartbeats 3200000 in
theorem scan_long (s : ByteArray) (w : World) (hs : ¬ s.size ≤ 65536) :
    Calls Tryz.prog 21 #[.string s] w fun e w' => e = .returned (.tuple #[.slice none 0 0, FaultV 1 0]) ∧ Below w.heap.size w w' := by
  obtain ⟨w1, hw1⟩ : ∃ w1, w1 = (w.alloc (.cells #[.int .i64 0, .int .i64 0, .int .i64 0] 27)).alloc (.cells #[.slice none 0 0] 36) := ⟨_, rfl⟩
  have h1 : Below w.heap.size w w1 := by rw [hw1]; exact (up_alloc _ _).alloc (by simp) _
  have hr1 : w1.heap[w.heap.size]? = some (.cells #[.int .i64 0, .int .i64 0, .int .i64 0] 27) := by rw [hw1]; exact (two_heap _ _ rfl).1
  have hC1 : w1.heap[w.heap.size + 1]? = some (.cells #[.slice none 0 0] 36) := by rw [hw1]; exact (two_heap _ _ rfl).2
  have H1 := Lib.hid h1
  have HR1 := Lib.hid hr1
  have HC1 := Lib.hid hC1
  have HW1 := Lib.hid hw1
  clear h1 hr1 hC1 hw1
  go_enter Tryz.func21, Tryz.ntmps21
  go_upto_region 2 with fail
  rw [← HW1.out]
  go_wp2_with fail
  refine (each_long s _ _ hs).mono ?_
  rintro e w5 ⟨he, hb⟩
  obtain ⟨fc, hfc⟩ : ∃ fc : Nat, fc = 1 := ⟨_, rfl⟩
  obtain ⟨fo, hfo⟩ : ∃ fo : Nat, fo = 0 := ⟨_, rfl⟩
  obtain ⟨v, hv0⟩ : ∃ v : Value, v = .slice none 0 0 := ⟨_, rfl⟩
  have he2 : e = .returned (.agg #[.int .i64 (fc : Int), .int .i64 0, .int .i64 (fo : Int)]) := by rw [hfc, hfo]; exact he
  have HV0 := Lib.hid hv0
  have HFC := Lib.hid hfc
  have HFO := Lib.hid hfo
  subst he2
  clear he hfc hfo
  have hsz1 : w1.heap.size = w.heap.size + 2 := by rw [HW1.out]; simp
  have hr5 : w5.heap[w.heap.size]? = some (.cells #[.int .i64 0, .int .i64 0, .int .i64 0] 27) := by rw [hb.block _ (by omega)]; exact HR1.out
  have h5z := hb.size
  have hv : w5.heap[w.heap.size + 1]? = some (.cells #[v] 36) := by rw [hv0, hb.block _ (by omega)]; exact HC1.out
  clear hv0
  go_upto_region 3 with fail
  obtain ⟨w6, hw6⟩ : ∃ w6, w6 = w5.alloc (.cells #[.int .i64 (fc : Int), .int .i64 0, .int .i64 (fo : Int)] 27) := ⟨_, rfl⟩
  rw [← hw6]
  have q1 : w6.heap[w.heap.size]? = some (.cells #[.int .i64 0, .int .i64 0, .int .i64 0] 27) := by rw [hw6, Below.heap_alloc _ _ _ (by omega)]; exact hr5
  have q2 : w6.heap[w5.heap.size]? = some (.cells #[.int .i64 (fc : Int), .int .i64 0, .int .i64 (fo : Int)] 27) := by rw [hw6]; exact heap_alloc_new _ _
  have q3 : w6.heap[w.heap.size + 1]? = some (.cells #[v] 36) := by rw [hw6, Below.heap_alloc _ _ _ (by omega)]; exact hv
  have q4 : w6.cell? ⟨w.heap.size + 1, 0, none⟩ = some v := by simp only [World.cell?, q3]; rfl
  obtain ⟨a0, a1, a2, b0, b1, b2⟩ := row3 q1
  obtain ⟨c0, c1, c2, d0, d1, d2⟩ := row3 q2
  have HB6 : Hid (Below w.heap.size w w6) := Lib.hid (by rw [hw6]; exact (H1.out.trans (hb.mono (by omega))).alloc (by omega) _)
  have HH := Lib.hid (three_set (x := .int .i64 (fc : Int)) (y := .int .i64 0) (z := .int .i64 fo) q1)
  clear q1 q2 q3 hw6 hv hb hr5
  have HH2 : Hid ((((w6.setCell ⟨w.heap.size, 0, none⟩ (.int .i64 (fc : Int))).setCell ⟨w.heap.size, 1, none⟩ (.int .i64 0)).setCell ⟨w.heap.size, 2, none⟩ (.int .i64 (fo : Int))).drew.heap[w.heap.size]? = some (.cells #[.int .i64 (fc : Int), .int .i64 0, .int .i64 (fo : Int)] 27)) := Lib.hid (by rw [drew_heap]; exact HH.out)
  go_region
  all_goals
    go_wp2
    refine bodyPost_ret (results_slot_row rfl _ _ v w.heap.size 27 _ (0, 0) _ rfl rfl HH2.out Tryz.underlying27 rfl Tryz.size25) rfl ?_
    exact ⟨by rw [← HV0.out, HFC.out, HFO.out]; rfl, (((HB6.out.setCell (Nat.le_refl _) _).setCell (Nat.le_refl _) _).setCell (Nat.le_refl _) _).drew⟩

end Go.Proofs.YtncdjkdpoinfaaaGreatDoor
/-
  The walk of edicttop.spells, at a token's spelling. Conditions: the spelling is at most 65536 bytes long and is that token; the variables hold what the program's text lays.
-/
namespace Go.Proofs.YtncdjkdpoinfaaaGreatDoor
open Go.RowKit Go.Shelf Pl

theorem of_nats {s : ByteArray} {p : List Nat} (h : (L s).map (·.toNat) = p) : s = sgB p := by
  apply of_L
  rw [← h, List.map_map]
  conv => lhs; rw [← List.map_id (L s)]
  apply List.map_congr_left
  intro a _
  simp
def TokArg (kind : Nat) (tx : ByteArray) (int : Int) (op off fin : Nat) : Value := .agg #[.int .i64 (kind : Int), .string tx, .int .i64 int, .int .i64 (op : Int), .int .i64 (off : Int), .int .i64 (fin : Int)]

set_option maxRecDepth 100000 in
set_option maxHeartbeats 3200000 in
theorem spells_no (B off fin : Nat) (w : World) (hG : Gl B w) :
    Calls Tryz.prog 41 #[.string ⟨#[110, 111, 116]⟩, .agg #[.int .i64 10, .string { data := #[] }, .int .i64 0, .int .i64 0, .int .i64 (off : Int), .int .i64 (fin : Int)]] w fun e w' => e = .returned (.bool true) ∧ Below w.heap.size w w' := by
  have hG1 := fun o : Obj => hG.below ((Below.refl B w).alloc hG.lt o)
  have hc : ∀ o : Obj, (w.alloc o).cell? ⟨1, 10, none⟩ = some (.string ⟨#[110, 111, 116]⟩) := fun o => (hG1 o).mrk 10 (by decide)
  clear hG hG1
  go_enter Tryz.func41, Tryz.ntmps41
  go_wp2
  go_ret
  exact ⟨rfl, up_alloc _ _⟩

set_option maxRecDepth 100000 in
set_option maxHeartbeats 3200000 in
theorem spells_58_45 (B off fin : Nat) (w : World) (hG : Gl B w) :
    Calls Tryz.prog 41 #[.string ⟨#[58, 45]⟩, .agg #[.int .i64 9, .string { data := #[] }, .int .i64 0, .int .i64 0, .int .i64 (off : Int), .int .i64 (fin : Int)]] w fun e w' => e = .returned (.bool true) ∧ Below w.heap.size w w' := by
  have hG1 := fun o : Obj => hG.below ((Below.refl B w).alloc hG.lt o)
  have hc : ∀ o : Obj, (w.alloc o).cell? ⟨1, 9, none⟩ = some (.string ⟨#[58, 45]⟩) := fun o => (hG1 o).mrk 9 (by decide)
  clear hG hG1
  go_enter Tryz.func41, Tryz.ntmps41
  go_wp2
  go_ret
  exact ⟨rfl, up_alloc _ _⟩

set_option maxRecDepth 100000 in
set_option maxHeartbeats 3200000 in
theorem spells_33_61 (B off fin : Nat) (w : World) (hG : Gl B w) :
    Calls Tryz.prog 41 #[.string ⟨#[33, 61]⟩, .agg #[.int .i64 11, .string { data := #[] }, .int .i64 0, .int .i64 2, .int .i64 (off : Int), .int .i64 (fin : Int)]] w fun e w' => e = .returned (.bool true) ∧ Below w.heap.size w w' := by
  have hG1 := fun o : Obj => hG.below ((Below.refl B w).alloc hG.lt o)
  have hc : ∀ o : Obj, (w.alloc o).cell? ⟨0, 2, none⟩ = some (.string ⟨#[33, 61]⟩) := fun o => (hG1 o).ops 2 (by decide)
  clear hG hG1
  go_enter Tryz.func41, Tryz.ntmps41
  go_wp2
  go_ret
  exact ⟨rfl, up_alloc _ _⟩

set_option maxRecDepth 100000 in
set_option maxHeartbeats 3200000 in
theorem spells_60_61 (B off fin : Nat) (w : World) (hG : Gl B w) :
    Calls Tryz.prog 41 #[.string ⟨#[60, 61]⟩, .agg #[.int .i64 11, .string { data := #[] }, .int .i64 0, .int .i64 4, .int .i64 (off : Int), .int .i64 (fin : Int)]] w fun e w' => e = .returned (.bool true) ∧ Below w.heap.size w w' := by
  have hG1 := fun o : Obj => hG.below ((Below.refl B w).alloc hG.lt o)
  have hc : ∀ o : Obj, (w.alloc o).cell? ⟨0, 4, none⟩ = some (.string ⟨#[60, 61]⟩) := fun o => (hG1 o).ops 4 (by decide)
  clear hG hG1
  go_enter Tryz.func41, Tryz.ntmps41
  go_wp2
  go_ret
  exact ⟨rfl, up_alloc _ _⟩

set_option maxRecDepth 100000 in
set_option maxHeartbeats 3200000 in
theorem spells_62_61 (B off fin : Nat) (w : World) (hG : Gl B w) :
    Calls Tryz.prog 41 #[.string ⟨#[62, 61]⟩, .agg #[.int .i64 11, .string { data := #[] }, .int .i64 0, .int .i64 6, .int .i64 (off : Int), .int .i64 (fin : Int)]] w fun e w' => e = .returned (.bool true) ∧ Below w.heap.size w w' := by
  have hG1 := fun o : Obj => hG.below ((Below.refl B w).alloc hG.lt o)
  have hc : ∀ o : Obj, (w.alloc o).cell? ⟨0, 6, none⟩ = some (.string ⟨#[62, 61]⟩) := fun o => (hG1 o).ops 6 (by decide)
  clear hG hG1
  go_enter Tryz.func41, Tryz.ntmps41
  go_wp2
  go_ret
  exact ⟨rfl, up_alloc _ _⟩

set_option maxRecDepth 100000 in
set_option maxHeartbeats 3200000 in
theorem spells_60 (B off fin : Nat) (w : World) (hG : Gl B w) :
    Calls Tryz.prog 41 #[.string ⟨#[60]⟩, .agg #[.int .i64 11, .string { data := #[] }, .int .i64 0, .int .i64 3, .int .i64 (off : Int), .int .i64 (fin : Int)]] w fun e w' => e = .returned (.bool true) ∧ Below w.heap.size w w' := by
  have hG1 := fun o : Obj => hG.below ((Below.refl B w).alloc hG.lt o)
  have hc : ∀ o : Obj, (w.alloc o).cell? ⟨0, 3, none⟩ = some (.string ⟨#[60]⟩) := fun o => (hG1 o).ops 3 (by decide)
  clear hG hG1
  go_enter Tryz.func41, Tryz.ntmps41
  go_wp2
  go_ret
  exact ⟨rfl, up_alloc _ _⟩

set_option maxRecDepth 100000 in
set_option maxHeartbeats 3200000 in
theorem spells_62 (B off fin : Nat) (w : World) (hG : Gl B w) :
    Calls Tryz.prog 41 #[.string ⟨#[62]⟩, .agg #[.int .i64 11, .string { data := #[] }, .int .i64 0, .int .i64 5, .int .i64 (off : Int), .int .i64 (fin : Int)]] w fun e w' => e = .returned (.bool true) ∧ Below w.heap.size w w' := by
  have hG1 := fun o : Obj => hG.below ((Below.refl B w).alloc hG.lt o)
  have hc : ∀ o : Obj, (w.alloc o).cell? ⟨0, 5, none⟩ = some (.string ⟨#[62]⟩) := fun o => (hG1 o).ops 5 (by decide)
  clear hG hG1
  go_enter Tryz.func41, Tryz.ntmps41
  go_wp2
  go_ret
  exact ⟨rfl, up_alloc _ _⟩

set_option maxRecDepth 100000 in
set_option maxHeartbeats 3200000 in
theorem spells_61 (B off fin : Nat) (w : World) (hG : Gl B w) :
    Calls Tryz.prog 41 #[.string ⟨#[61]⟩, .agg #[.int .i64 11, .string { data := #[] }, .int .i64 0, .int .i64 1, .int .i64 (off : Int), .int .i64 (fin : Int)]] w fun e w' => e = .returned (.bool true) ∧ Below w.heap.size w w' := by
  have hG1 := fun o : Obj => hG.below ((Below.refl B w).alloc hG.lt o)
  have hc : ∀ o : Obj, (w.alloc o).cell? ⟨0, 1, none⟩ = some (.string ⟨#[61]⟩) := fun o => (hG1 o).ops 1 (by decide)
  clear hG hG1
  go_enter Tryz.func41, Tryz.ntmps41
  go_wp2
  go_ret
  exact ⟨rfl, up_alloc _ _⟩

set_option maxRecDepth 100000 in
set_option maxHeartbeats 3200000 in
theorem spells_40 (B off fin : Nat) (w : World) (hG : Gl B w) :
    Calls Tryz.prog 41 #[.string ⟨#[40]⟩, .agg #[.int .i64 5, .string { data := #[] }, .int .i64 0, .int .i64 0, .int .i64 (off : Int), .int .i64 (fin : Int)]] w fun e w' => e = .returned (.bool true) ∧ Below w.heap.size w w' := by
  have hG1 := fun o : Obj => hG.below ((Below.refl B w).alloc hG.lt o)
  have hc : ∀ o : Obj, (w.alloc o).cell? ⟨1, 5, none⟩ = some (.string ⟨#[40]⟩) := fun o => (hG1 o).mrk 5 (by decide)
  clear hG hG1
  go_enter Tryz.func41, Tryz.ntmps41
  go_wp2
  go_ret
  exact ⟨rfl, up_alloc _ _⟩

set_option maxRecDepth 100000 in
set_option maxHeartbeats 3200000 in
theorem spells_41 (B off fin : Nat) (w : World) (hG : Gl B w) :
    Calls Tryz.prog 41 #[.string ⟨#[41]⟩, .agg #[.int .i64 6, .string { data := #[] }, .int .i64 0, .int .i64 0, .int .i64 (off : Int), .int .i64 (fin : Int)]] w fun e w' => e = .returned (.bool true) ∧ Below w.heap.size w w' := by
  have hG1 := fun o : Obj => hG.below ((Below.refl B w).alloc hG.lt o)
  have hc : ∀ o : Obj, (w.alloc o).cell? ⟨1, 6, none⟩ = some (.string ⟨#[41]⟩) := fun o => (hG1 o).mrk 6 (by decide)
  clear hG hG1
  go_enter Tryz.func41, Tryz.ntmps41
  go_wp2
  go_ret
  exact ⟨rfl, up_alloc _ _⟩

set_option maxRecDepth 100000 in
set_option maxHeartbeats 3200000 in
theorem spells_44 (B off fin : Nat) (w : World) (hG : Gl B w) :
    Calls Tryz.prog 41 #[.string ⟨#[44]⟩, .agg #[.int .i64 7, .string { data := #[] }, .int .i64 0, .int .i64 0, .int .i64 (off : Int), .int .i64 (fin : Int)]] w fun e w' => e = .returned (.bool true) ∧ Below w.heap.size w w' := by
  have hG1 := fun o : Obj => hG.below ((Below.refl B w).alloc hG.lt o)
  have hc : ∀ o : Obj, (w.alloc o).cell? ⟨1, 7, none⟩ = some (.string ⟨#[44]⟩) := fun o => (hG1 o).mrk 7 (by decide)
  clear hG hG1
  go_enter Tryz.func41, Tryz.ntmps41
  go_wp2
  go_ret
  exact ⟨rfl, up_alloc _ _⟩

set_option maxRecDepth 100000 in
set_option maxHeartbeats 3200000 in
theorem spells_46 (B off fin : Nat) (w : World) (hG : Gl B w) :
    Calls Tryz.prog 41 #[.string ⟨#[46]⟩, .agg #[.int .i64 8, .string { data := #[] }, .int .i64 0, .int .i64 0, .int .i64 (off : Int), .int .i64 (fin : Int)]] w fun e w' => e = .returned (.bool true) ∧ Below w.heap.size w w' := by
  have hG1 := fun o : Obj => hG.below ((Below.refl B w).alloc hG.lt o)
  have hc : ∀ o : Obj, (w.alloc o).cell? ⟨1, 8, none⟩ = some (.string ⟨#[46]⟩) := fun o => (hG1 o).mrk 8 (by decide)
  clear hG hG1
  go_enter Tryz.func41, Tryz.ntmps41
  go_wp2
  go_ret
  exact ⟨rfl, up_alloc _ _⟩
end Go.Proofs.YtncdjkdpoinfaaaGreatDoor
/-
  The walk of edicttop.spells at texts, numbers and words. Conditions: the spelling is at most 65536 bytes long and is that token.
-/
namespace Go.Proofs.YtncdjkdpoinfaaaGreatDoor
open Go.RowKit Go.Shelf Pl

set_option maxRecDepth 100000 in
set_option maxHeartbeats 3200000 in
theorem spells_text (s tx : ByteArray) (off fin : Nat) (w : World) (hs : s.size ≤ 65536) (c0 : UInt8) (r : List UInt8) (hL : L s = c0 :: r) (hc0 : c0.toNat = 34) (hr : txt [] r = .ok (L tx) []) (hl : tx.size ≤ 255) :
    Calls Tryz.prog 41 #[.string s, .agg #[.int .i64 4, .string tx, .int .i64 0, .int .i64 0, .int .i64 (off : Int), .int .i64 (fin : Int)]] w fun e w' => e = .returned (.bool true) ∧ Below w.heap.size w w' := by
  have hl2 : decide ((tx.size : Int) ≤ 255) = true := decide_eq_true (by omega)
  have hs0 : 0 < s.size := by rw [← L_len, hL]; simp
  have hsn : (s.toList == []) = false := by
    rw [beq_eq_false_iff_ne, ByteArray.toList_eq]
    intro h
    have h2 : L s = [] := h
    rw [hL] at h2; cases h2
  have HL := Lib.hid hL
  have HR := Lib.hid hr
  have HC := Lib.hid hc0
  clear hL hr hc0
  go_enter Tryz.func41, Tryz.ntmps41
  go_wp2_with fail
  refine (quoted_any s tx _ hs c0 r HL.out HC.out HR.out).mono ?_
  rintro e w' ⟨rfl, m, rfl⟩
  go_wp2
  go_ret
  exact ⟨rfl, below_drewN (up_alloc _ _)⟩
theorem int_shape {s : ByteArray} (h : IntSp (L s)) : ∃ (F : Nat) (h0 : 0 < s.size), ((s[0].toNat = 45 ∧ F = 1) ∨ (s[0].toNat ≠ 45 ∧ F = 0)) ∧ F < s.size ∧ ∀ j (hj : j < s.size), F ≤ j → isD s[j] = true := by
  obtain ⟨f, h1, h2, h3⟩ := h
  have hf : 0 < f.length := by cases f with
    | nil => exact absurd rfl h2
    | cons => simp
  rcases h1 with h1 | ⟨c, h1, hc⟩
  · have hz : 0 < s.size := by rw [← L_len, h1]; exact hf
    have hall : ∀ j (hj : j < s.size), isD s[j] = true := fun j hj => by
      rw [← L_get hj]
      simp only [h1]
      exact all_at h3 _
    refine ⟨0, hz, .inr ⟨fun h => ?_, rfl⟩, hz, fun j hj _ => hall j hj⟩
    have := hall 0 hz
    simp [isD, h] at this
  · have hz : s.size = f.length + 1 := by rw [← L_len, h1]; simp
    have h0 : 0 < s.size := by omega
    refine ⟨1, h0, .inl ⟨?_, rfl⟩, by omega, fun j hj h1j => ?_⟩
    · rw [← L_get h0]; simp only [h1]; exact hc
    · rw [← L_get hj]
      have h5 : (L s)[j]'(by rw [L_len]; exact hj) = f[j - 1]'(by omega) := by
        simp only [h1]
        rw [List.getElem_cons]
        rw [dif_neg (by omega)]
      rw [h5]; exact all_at h3 _

set_option maxRecDepth 100000 in
set_option maxHeartbeats 3200000 in
theorem spells_int (s : ByteArray) (v : Int) (off fin : Nat) (w : World) (hs : s.size ≤ 65536) (hsp : IntSp (L s)) (hv : intV (L s) = some v) :
    Calls Tryz.prog 41 #[.string s, .agg #[.int .i64 3, .string { data := #[] }, .int .i64 v, .int .i64 0, .int .i64 (off : Int), .int .i64 (fin : Int)]] w fun e w' => e = .returned (.bool true) ∧ Below w.heap.size w w' := by
  obtain ⟨F, h0, hF, hFs, hall⟩ := int_shape hsp
  have hsn : (s.toList == []) = false := by
    rw [beq_eq_false_iff_ne, ByteArray.toList_eq]
    intro h
    have h2 : L s = [] := h
    have := L_len s
    rw [h2] at this; simp at this; omega
  have h0I : (0 : Int) < (s.size : Int) := by omega
  have HSP := Lib.hid hsp
  have HV := Lib.hid hv
  have HALL := Lib.hid hall
  clear hsp hv hall
  go_enter Tryz.func41, Tryz.ntmps41
  rcases hF with ⟨h45, rfl⟩ | ⟨h45, rfl⟩
  · have e45 : ((s[0].toNat : Int) == 45) = true := by simp; omega
    have k9 : ((s.size : Int) == 1) = false := by rw [beq_eq_false_iff_ne]; omega
    clear h45
    go_wp2
    go_loop [8] (fun k => ∃ q : Nat, k = .int .i64 (q : Int) ∧ 1 ≤ q ∧ q ≤ s.size) (fun k => s.size - (intOf k).toNat)
    case atStart => exact ⟨1, rfl, Nat.le_refl _, by first | omega | exact Nat.zero_le _⟩
    case round =>
      obtain ⟨q, rfl, hFq, hq⟩ := hrel
      by_cases h1 : q < s.size
      · have j0 : (0 : Int) ≤ (q : Int) := by omega
        have j1 : (q : Int) < (s.size : Int) := by omega
        have hwq : IntKind.i64.wrap ((q : Int) + 1) = (q : Int) + 1 := by rw [IntKind.wrap_i64]; omega
        have hd := HALL.out q h1 hFq
        go_wp2_with fail
        refine (digit_any s[q] _).mono ?_
        rintro e w' ⟨rfl, rfl⟩
        rw [hd]
        go_wp2
        go_round
        case rel => exact ⟨q + 1, by go_num, by omega, by omega⟩
        case measure => simp only [intOf]; omega
      · have j1 : ¬ (q : Int) < (s.size : Int) := by omega
        go_wp2_with fail
        refine (whole_any s _ h0 hs HSP.out).mono ?_
        rintro e w' ⟨he, rfl⟩
        rw [HV.out] at he
        have he2 : e = .returned (.tuple #[.int .i64 v, .bool true]) := he
        subst he2
        clear he
        go_wp2
        go_ret
        exact ⟨rfl, up_alloc _ _⟩
  · have e45 : ((s[0].toNat : Int) == 45) = false := by simp; omega
    have k9 : ((s.size : Int) == 0) = false := by rw [beq_eq_false_iff_ne]; omega
    clear h45
    go_wp2
    go_loop [8] (fun k => ∃ q : Nat, k = .int .i64 (q : Int) ∧ 0 ≤ q ∧ q ≤ s.size) (fun k => s.size - (intOf k).toNat)
    case atStart => exact ⟨0, rfl, Nat.le_refl _, by first | omega | exact Nat.zero_le _⟩
    case round =>
      obtain ⟨q, rfl, hFq, hq⟩ := hrel
      by_cases h1 : q < s.size
      · have j0 : (0 : Int) ≤ (q : Int) := by omega
        have j1 : (q : Int) < (s.size : Int) := by omega
        have hwq : IntKind.i64.wrap ((q : Int) + 1) = (q : Int) + 1 := by rw [IntKind.wrap_i64]; omega
        have hd := HALL.out q h1 hFq
        go_wp2_with fail
        refine (digit_any s[q] _).mono ?_
        rintro e w' ⟨rfl, rfl⟩
        rw [hd]
        go_wp2
        go_round
        case rel => exact ⟨q + 1, by go_num, by omega, by omega⟩
        case measure => simp only [intOf]; omega
      · have j1 : ¬ (q : Int) < (s.size : Int) := by omega
        go_wp2_with fail
        refine (whole_any s _ h0 hs HSP.out).mono ?_
        rintro e w' ⟨he, rfl⟩
        rw [HV.out] at he
        have he2 : e = .returned (.tuple #[.int .i64 v, .bool true]) := he
        subst he2
        clear he
        go_wp2
        go_ret
        exact ⟨rfl, up_alloc _ _⟩
theorem word_shape {s : ByteArray} (h : (L s).all isW = true) : ∀ j (hj : j < s.size), isW s[j] = true := fun j hj => by
  rw [← L_get hj]
  exact all_at h _

set_option maxRecDepth 100000 in
set_option maxHeartbeats 3200000 in
theorem spells_name (s : ByteArray) (off fin : Nat) (w : World) (h0 : 0 < s.size) (hs : s.size ≤ 64) (hw : (L s).all isW = true) (hn : (L s).map (·.toNat) ≠ [110, 111, 116]) (hc : isL s[0] = true) :
    Calls Tryz.prog 41 #[.string s, .agg #[.int .i64 1, .string s, .int .i64 0, .int .i64 0, .int .i64 (off : Int), .int .i64 (fin : Int)]] w fun e w' => e = .returned (.bool true) ∧ Below w.heap.size w w' := by
  have hsn : (s.toList == []) = false := by
    rw [beq_eq_false_iff_ne, ByteArray.toList_eq]
    intro h
    have h2 : L s = [] := h
    have := L_len s
    rw [h2] at this; simp at this; omega
  have hq : (s.toList == [110, 111, 116]) = false := by
    rw [beq_eq_false_iff_ne]
    intro h
    exact hn (by rw [L_eq_toList s h]; rfl)
  have h0I : (0 : Int) < (s.size : Int) := by omega
  have h64 : decide ((s.size : Int) ≤ 64) = true := decide_eq_true (by omega)
  have HALL := Lib.hid (word_shape hw)
  clear hw hn
  go_enter Tryz.func41, Tryz.ntmps41
  go_wp2
  go_loop [5] (fun k => ∃ q : Nat, k = .int .i64 (q : Int) ∧ q ≤ s.size) (fun k => s.size - (intOf k).toNat)
  case atStart => exact ⟨0, rfl, Nat.zero_le _⟩
  case round =>
    obtain ⟨q, rfl, hq⟩ := hrel
    by_cases h1 : q < s.size
    · have j0 : (0 : Int) ≤ (q : Int) := by omega
      have j1 : (q : Int) < (s.size : Int) := by omega
      have hwq : IntKind.i64.wrap ((q : Int) + 1) = (q : Int) + 1 := by rw [IntKind.wrap_i64]; omega
      have hd := HALL.out q h1
      go_wp2_with fail
      refine (wordByte_any s[q] _).mono ?_
      rintro e w' ⟨rfl, rfl⟩
      rw [hd]
      go_wp2
      go_round
      case rel => exact ⟨q + 1, by go_num, by omega⟩
      case measure => simp only [intOf]; omega
    · have j1 : ¬ (q : Int) < (s.size : Int) := by omega
      have hc5 : 97 ≤ s[0].toNat ∧ s[0].toNat ≤ 122 := by simpa [isL] using hc
      have e97 : decide ((s[0].toNat : Int) ≥ 97) = true := decide_eq_true (by omega)
      have e122 : decide ((s[0].toNat : Int) ≤ 122) = true := decide_eq_true (by omega)
      have HDG : Hid (isD s[0] = false) := Lib.hid (by simp [isD]; omega)
      clear hc hc5
      go_wp2_with fail
      refine (digit_any s[0] _).mono ?_
      rintro e w' ⟨rfl, rfl⟩
      rw [HDG.out]
      go_wp2
      go_ret
      exact ⟨rfl, up_alloc _ _⟩

set_option maxRecDepth 100000 in
set_option maxHeartbeats 3200000 in
theorem spells_var (s : ByteArray) (off fin : Nat) (w : World) (h0 : 0 < s.size) (hs : s.size ≤ 64) (hw : (L s).all isW = true) (hn : (L s).map (·.toNat) ≠ [110, 111, 116]) (hc : isL s[0] = false) (hc2 : isD s[0] = false) :
    Calls Tryz.prog 41 #[.string s, .agg #[.int .i64 2, .string s, .int .i64 0, .int .i64 0, .int .i64 (off : Int), .int .i64 (fin : Int)]] w fun e w' => e = .returned (.bool true) ∧ Below w.heap.size w w' := by
  have hsn : (s.toList == []) = false := by
    rw [beq_eq_false_iff_ne, ByteArray.toList_eq]
    intro h
    have h2 : L s = [] := h
    have := L_len s
    rw [h2] at this; simp at this; omega
  have hq : (s.toList == [110, 111, 116]) = false := by
    rw [beq_eq_false_iff_ne]
    intro h
    exact hn (by rw [L_eq_toList s h]; rfl)
  have h0I : (0 : Int) < (s.size : Int) := by omega
  have h64 : decide ((s.size : Int) ≤ 64) = true := decide_eq_true (by omega)
  have HALL := Lib.hid (word_shape hw)
  clear hw hn
  go_enter Tryz.func41, Tryz.ntmps41
  go_wp2
  go_loop [5] (fun k => ∃ q : Nat, k = .int .i64 (q : Int) ∧ q ≤ s.size) (fun k => s.size - (intOf k).toNat)
  case atStart => exact ⟨0, rfl, Nat.zero_le _⟩
  case round =>
    obtain ⟨q, rfl, hq⟩ := hrel
    by_cases h1 : q < s.size
    · have j0 : (0 : Int) ≤ (q : Int) := by omega
      have j1 : (q : Int) < (s.size : Int) := by omega
      have hwq : IntKind.i64.wrap ((q : Int) + 1) = (q : Int) + 1 := by rw [IntKind.wrap_i64]; omega
      have hd := HALL.out q h1
      go_wp2_with fail
      refine (wordByte_any s[q] _).mono ?_
      rintro e w' ⟨rfl, rfl⟩
      rw [hd]
      go_wp2
      go_round
      case rel => exact ⟨q + 1, by go_num, by omega⟩
      case measure => simp only [intOf]; omega
    · have j1 : ¬ (q : Int) < (s.size : Int) := by omega
      have hc5 : ¬ (97 ≤ s[0].toNat ∧ s[0].toNat ≤ 122) := by simpa [isL] using hc
      have HDG := Lib.hid hc2
      by_cases e9 : 97 ≤ s[0].toNat
      · have e97 : decide ((s[0].toNat : Int) ≥ 97) = true := decide_eq_true (by omega)
        have e122 : decide ((s[0].toNat : Int) ≤ 122) = false := decide_eq_false (by omega)
        clear hc hc5 e9 hc2
        go_wp2_with fail
        refine (digit_any s[0] _).mono ?_
        rintro e w' ⟨rfl, rfl⟩
        rw [HDG.out]
        go_wp2
        go_ret
        exact ⟨rfl, up_alloc _ _⟩
      · have e97 : decide ((s[0].toNat : Int) ≥ 97) = false := decide_eq_false (by omega)
        clear hc hc5 e9 hc2
        go_wp2_with fail
        refine (digit_any s[0] _).mono ?_
        rintro e w' ⟨rfl, rfl⟩
        rw [HDG.out]
        go_wp2
        go_ret
        exact ⟨rfl, up_alloc _ _⟩
end Go.Proofs.YtncdjkdpoinfaaaGreatDoor
/-
  edicttop.spells is true at every token's spelling. Conditions: the spelling is at most 65536 bytes long and is that token; the variables hold what the program's text lays.
-/
namespace Go.Proofs.YtncdjkdpoinfaaaGreatDoor
open Go.RowKit Go.Shelf Pl

theorem L_inj {s t : ByteArray} (h : L s = L t) : s = t := by rw [of_L h, ← of_L (rfl : L t = L t)]
theorem L_nil {t : ByteArray} (h : L t = []) : t = ⟨#[]⟩ := of_L h
theorem spells_any (s tx : ByteArray) (kind op off fin B : Nat) (int : Int) (w : World) (hs : s.size ≤ 65536) (hG : Gl B w) (hok : TokOk (L s) kind op (L tx) int) :
    Calls Tryz.prog 41 #[.string s, .agg #[.int .i64 (kind : Int), .string tx, .int .i64 int, .int .i64 (op : Int), .int .i64 (off : Int), .int .i64 (fin : Int)]] w fun e w' => e = .returned (.bool true) ∧ Below w.heap.size w w' := by
  obtain ⟨l, hl⟩ : ∃ l, l = L s := ⟨_, rfl⟩
  obtain ⟨tl, htl⟩ : ∃ tl, tl = L tx := ⟨_, rfl⟩
  rw [← hl, ← htl] at hok
  have hlen : l.length = s.size := by rw [hl, L_len]
  cases hok with
  | int w' f v h1 h2 h3 h4 =>
    rw [L_nil htl.symm]
    rw [hl] at h1 h4
    exact spells_int s _ off fin w hs ⟨f, h1, h2, h3⟩ h4
  | no w' h1 =>
    rw [L_nil htl.symm, of_nats (s := s) (p := [110, 111, 116]) (by rw [← hl]; exact h1)]
    exact spells_no B off fin w hG
  | name c r h1 h2 h3 h4 =>
    have : tx = s := L_inj (by rw [← htl, ← hl])
    subst this
    have h0 : 0 < tx.size := by rw [← hlen]; simp
    have hc : tx[0] = c := by
      have h5 := L_drop h0
      rw [List.drop_zero, ← hl] at h5
      injection h5 with h6 _; exact h6.symm
    exact spells_name tx off fin w h0 (by rw [← hlen]; exact h2) (by rw [← hl]; exact h1) (by rw [← hl]; exact h3) (by rw [hc]; exact h4)
  | var c r h1 h2 h3 h4 =>
    have : tx = s := L_inj (by rw [← htl, ← hl])
    subst this
    have h0 : 0 < tx.size := by rw [← hlen]; simp
    have hc : tx[0] = c := by
      have h5 := L_drop h0
      rw [List.drop_zero, ← hl] at h5
      injection h5 with h6 _; exact h6.symm
    refine spells_var tx off fin w h0 (by rw [← hlen]; exact h2) (by rw [← hl]; exact h1) ?_ (by rw [hc]; exact h3) (by rw [hc]; exact h4)
    rw [← hl]
    intro h
    rw [List.map_cons] at h
    injection h with h5 _
    simp [isL, h5] at h3
  | text c w' t h1 h2 h3 =>
    rw [htl] at h2 h3
    rw [L_len] at h3
    exact spells_text s tx off fin w hs c w' hl.symm h1 h2 h3
  | sign w' p kind op hm hw =>
    rw [L_nil htl.symm]
    rw [hl] at hw
    simp only [signs, List.mem_cons, Prod.mk.injEq, List.not_mem_nil, or_false] at hm
    rcases hm with ⟨rfl, rfl, rfl⟩ | ⟨rfl, rfl, rfl⟩ | ⟨rfl, rfl, rfl⟩ | ⟨rfl, rfl, rfl⟩ | ⟨rfl, rfl, rfl⟩ | ⟨rfl, rfl, rfl⟩ | ⟨rfl, rfl, rfl⟩ | ⟨rfl, rfl, rfl⟩ | ⟨rfl, rfl, rfl⟩ | ⟨rfl, rfl, rfl⟩ | ⟨rfl, rfl, rfl⟩
    all_goals rw [of_nats hw]
    · exact spells_58_45 B off fin w hG
    · exact spells_33_61 B off fin w hG
    · exact spells_60_61 B off fin w hG
    · exact spells_62_61 B off fin w hG
    · exact spells_60 B off fin w hG
    · exact spells_62 B off fin w hG
    · exact spells_61 B off fin w hG
    · exact spells_40 B off fin w hG
    · exact spells_41 B off fin w hG
    · exact spells_44 B off fin w hG
    · exact spells_46 B off fin w hG
end Go.Proofs.YtncdjkdpoinfaaaGreatDoor
/-
  The walk of edicttop.cut, at the tokens of the text. Conditions: the text is at most 65536 bytes long; the tokens lie in memory; the variables hold what the program's text lays.
-/
namespace Go.Proofs.YtncdjkdpoinfaaaGreatDoor
open Go.RowKit Go.Shelf Pl

theorem tok_facts {s : ByteArray} {p : Nat} {t : Tk} {ts' : List Tk} {f : Nat × Nat} (h : Sc (L s) p (t :: ts') f) :
    ∃ r, gap .out ((L s).drop p) = .inl r ∧ t.off = s.size - r.length ∧
      ((t = ⟨0, [], 0, 0, s.size, s.size⟩ ∧ ts' = [] ∧ f = (0, 0) ∧ r = []) ∨
       (t.kind ≠ 0 ∧ t.off < t.fin ∧ t.fin ≤ s.size ∧ TokOk (L (s.extract t.off t.fin)) t.kind t.op t.text t.int ∧ Munch t.kind t.op ((L s).drop t.fin) ∧ Sc (L s) t.fin ts' f)) := by
  cases h with
  | fin p h1 => exact ⟨[], h1, by simp only [L_len, List.length_nil, Nat.sub_zero], .inl ⟨by rw [L_len], rfl, rfl, rfl⟩⟩
  | tok p r rest text kind op int ts f h1 h2 h3 =>
    refine ⟨r, h1, by simp only [L_len], .inr ?_⟩
    obtain ⟨w, g1, g2, g3, g4⟩ := next_tok h2
    obtain ⟨k1, k2⟩ := gap_place h1
    obtain ⟨k3, k4⟩ := tok_kind h2
    rw [L_len] at k1 k2
    have hrl : r.length = w.length + rest.length := by rw [g1, List.length_append]
    have hd : (L s).drop (s.size - rest.length) = rest := by
      have := drop_rest (l := L s) (p := s.size - r.length) (w := w) (rest := rest) (by rw [k1, g1])
      rw [L_len] at this; exact this
    have hrs : r.length ≤ s.size := by omega
    refine ⟨k3, ?_, ?_, ?_, ?_, h3⟩
    · simp only [L_len]; omega
    · simp only [L_len]; omega
    · simp only [L_len]
      have : L (s.extract (s.size - r.length) (s.size - rest.length)) = w := by
        rw [cut_drop, k1, show s.size - rest.length - (s.size - r.length) = w.length by omega, g1, List.take_left]
      rw [this]; exact g3
    · simp only [L_len, hd]; exact g4
theorem tok_text (t : Tk) : L ⟨t.text.toArray⟩ = t.text := by simp [L]
theorem flatT_at : ∀ (ts : List Tk) (i : Nat) (hi : i < ts.length) (j : Nat) (hj : j < 6), (flatT ts)[i * 6 + j]? = (tkV ts[i])[j]?
  | t :: ts, 0, hi, j, hj => by
    simp only [flatT, List.flatMap_cons, Nat.zero_mul, Nat.zero_add, List.getElem_cons_zero]
    rw [List.getElem?_append_left (by simp [tkV]; omega)]
  | t :: ts, i + 1, hi, j, hj => by
    simp only [flatT, List.flatMap_cons, List.getElem_cons_succ]
    rw [List.getElem?_append_right (by simp [tkV]; omega)]
    have h := flatT_at ts i (by simpa using hi) j hj
    unfold flatT at h
    rw [← h]
    congr 1
    simp [tkV]; omega
/-- Tokens that lie in memory, by place. -/
theorem tok_cells {w : World} {base cap g : Nat} {ts : List Tk} (h : w.ownsRow base 62 6 (.slice (some ⟨g, 0, none⟩) ts.length cap) ts.length (flatT ts)) {i : Nat} (hi : i < ts.length) :
    w.cell? ⟨g, i * 6, none⟩ = some (.int .i64 (ts[i].kind : Int)) ∧ w.cell? ⟨g, i * 6 + 1, none⟩ = some (.string ⟨ts[i].text.toArray⟩) ∧ w.cell? ⟨g, i * 6 + 2, none⟩ = some (.int .i64 ts[i].int) ∧
    w.cell? ⟨g, i * 6 + 3, none⟩ = some (.int .i64 (ts[i].op : Int)) ∧ w.cell? ⟨g, i * 6 + 4, none⟩ = some (.int .i64 (ts[i].off : Int)) ∧ w.cell? ⟨g, i * 6 + 5, none⟩ = some (.int .i64 (ts[i].fin : Int)) := by
  have hc : ∀ j (hj : j < 6), w.cell? ⟨g, i * 6 + j, none⟩ = (tkV ts[i])[j]? := fun j hj => by
    rw [World.ownsRow.cellAt h (i * 6 + j) (by omega), flatT_at ts i hi j hj]
  exact ⟨hc 0 (by omega), hc 1 (by omega), hc 2 (by omega), hc 3 (by omega), hc 4 (by omega), hc 5 (by omega)⟩

/-- How the tokens end, and where the last one stops. -/
def CutEnd (s : ByteArray) (ts : List Tk) (f : Nat × Nat) (p : Nat) : Prop :=
  (f = (0, 0) ∧ ∃ t ts', ts = ts' ++ [t] ∧ t.kind = 0) ∨ (Sc (L s) p [] f ∧ ∀ t ∈ ts, t.kind ≠ 0)
theorem drop_last {ts : List Tk} {i : Nat} (hi : i < ts.length) (h : ts.drop (i + 1) = []) : i + 1 = ts.length ∧ ts = ts.take i ++ [ts[i]] := by
  have h1 : ts.length ≤ i + 1 := List.drop_eq_nil_iff.1 h
  have h2 : i + 1 = ts.length := by omega
  refine ⟨h2, ?_⟩
  rw [← List.take_succ_eq_append_getElem hi, h2, List.take_length]

set_option maxRecDepth 100000 in
set_option maxHeartbeats 3200000 in
theorem cut_any (s : ByteArray) (ts : List Tk) (f : Nat × Nat) (v : Value) (B D : Nat) (w : World) (hs : s.size ≤ 65536) (hG : Gl B w) (hSc : Sc (L s) 0 ts f) (hown : w.ownsRow D 62 6 v ts.length (flatT ts)) :
    Calls Tryz.prog 22 #[.string s, v] w fun e w' => (∃ p, p ≤ s.size ∧ CutEnd s ts f p ∧ e = .returned (.tuple #[.bool true, .int .i64 (p : Int)])) ∧ Below w.heap.size w w' := by
  have htl := sc_len hSc (Nat.zero_le _)
  rw [L_len] at htl
  have hBz := hG.lt
  obtain ⟨va, vc, rfl⟩ : ∃ va vc, v = .slice va ts.length vc := by
    rcases Joins.ownsRow_forms hown with ⟨h5, h6⟩ | ⟨g, cap, h5⟩
    · exact ⟨none, 0, by rw [h5, h6]⟩
    · exact ⟨_, cap, h5⟩
  have HSC := Lib.hid hSc
  have HO := Lib.hid hown
  have HG := Lib.hid hG
  clear hSc hown hG
  go_enter Tryz.func22, Tryz.ntmps22
  go_wp2
  go_loopw [14, 6] (fun k a wr => ∃ (i p : Nat), k = .int .i64 (i : Int) ∧ a = .int .i64 (p : Int) ∧ i ≤ ts.length ∧ p ≤ s.size ∧ Hid (Sc (L s) p (ts.drop i) f) ∧ Hid (Below w.heap.size w wr) ∧ Hid (∀ t ∈ ts.take i, t.kind ≠ 0)) (fun k _ _ => ts.length - (intOf k).toNat)
  case atStart => exact ⟨0, 0, rfl, rfl, Nat.zero_le _, Nat.zero_le _, HSC, Lib.hid (Below.refl _ _), Lib.hid (fun t h => by simp at h)⟩
  case round =>
    obtain ⟨i, p, rfl, rfl, hi, hp, HSc, HB, HK⟩ := hrel
    have hwz := HB.out.size
    by_cases h1 : i < ts.length
    · have iI : (i : Int) < (ts.length : Int) := by omega
      have i0 : (0 : Int) ≤ (i : Int) := by omega
      have hwi : IntKind.i64.wrap ((i : Int) + 1) = (i : Int) + 1 := by rw [IntKind.wrap_i64]; omega
      have hsc := HSc.out
      rw [List.drop_eq_getElem_cons h1] at hsc
      obtain ⟨r, hgr, hoff, hk⟩ := tok_facts hsc
      have hor : Hid (wr.ownsRow D 62 6 (.slice va ts.length vc) ts.length (flatT ts)) := Lib.hid (own_oth HO.out (fun k c hk => HB.out.block k (Array.getElem?_eq_some_iff.1 hk).1))
      obtain ⟨g, rfl⟩ : ∃ g, va = some ⟨g, 0, none⟩ := by
        obtain ⟨g, cap, h5⟩ := Joins.ownsRow_form hor.out (by omega)
        injection h5 with h6 _ _
        exact ⟨g, h6⟩
      obtain ⟨c0, c1, c2, c3, c4, c5⟩ := tok_cells hor.out h1
      obtain ⟨t, ht⟩ : ∃ t, t = ts[i] := ⟨_, rfl⟩
      rw [← ht] at c0 c1 c2 c3 c4 c5 hoff hk
      obtain ⟨kd, hkd⟩ : ∃ kd, kd = t.kind := ⟨_, rfl⟩
      obtain ⟨tx, htx⟩ : ∃ tx : ByteArray, tx = ⟨t.text.toArray⟩ := ⟨_, rfl⟩
      obtain ⟨iv, hiv⟩ : ∃ iv, iv = t.int := ⟨_, rfl⟩
      obtain ⟨ov, hov⟩ : ∃ ov, ov = t.op := ⟨_, rfl⟩
      obtain ⟨o, ho⟩ : ∃ o, o = t.off := ⟨_, rfl⟩
      obtain ⟨e, he⟩ : ∃ e, e = t.fin := ⟨_, rfl⟩
      rw [← hkd] at c0 hk
      rw [← htx] at c1
      rw [← hiv] at c2 hk
      rw [← hov] at c3 hk
      rw [← ho] at c4 hk hoff
      rw [← he] at c5 hk
      have HT := Lib.hid ht
      have HKD := Lib.hid hkd
      have HTX := Lib.hid htx
      have HIV := Lib.hid hiv
      have HOV := Lib.hid hov
      have HOF := Lib.hid ho
      have HFI := Lib.hid he
      have HHK := Lib.hid hk
      have HGR := Lib.hid hgr
      have HOFF := Lib.hid hoff.symm
      clear hsc hgr hoff hk ht hkd htx hiv hov ho he
      go_upto_region 5 with fail
      obtain ⟨w6, hw6⟩ : ∃ w6, w6 = wr.alloc (.cells #[.int .i64 (kd : Int), .string tx, .int .i64 iv, .int .i64 (ov : Int), .int .i64 (o : Int), .int .i64 (e : Int)] 62) := ⟨_, rfl⟩
      rw [← hw6]
      have q1 : w6.heap[wr.heap.size]? = some (.cells #[.int .i64 (kd : Int), .string tx, .int .i64 iv, .int .i64 (ov : Int), .int .i64 (o : Int), .int .i64 (e : Int)] 62) := by rw [hw6]; exact heap_alloc_new _ _
      have HB6 : Hid (Below w.heap.size w w6) := Lib.hid (by rw [hw6]; exact HB.out.alloc hwz _)
      have HQ := Lib.hid q1
      clear hw6 c0 c1 c2 c3 c4 c5
      obtain ⟨c0, c1, c2, c3, c4, c5, _, _, _, _, _, _⟩ := row6 q1
      clear q1
      go_wp2_with fail
      refine (skip_any s p _ hp hs).mono ?_
      rintro z w' ⟨hz, rfl⟩
      rw [HGR.out] at hz
      have hz2 : z = .returned (.tuple #[.int .i64 ((s.size - r.length : Nat) : Int), .int .i64 (-1)]) := hz
      subst hz2
      rw [HOFF.out]
      clear hz
      rcases HHK.out with ⟨ht0, hnil, hf, hr0⟩ | ⟨hk0, hoe, hes, hok, hmu, hnx⟩
      · have hkd : kd = 0 := by rw [HKD.out, ht0]
        have htx : tx = ⟨#[]⟩ := by rw [HTX.out, ht0]
        have hiv : iv = 0 := by rw [HIV.out, ht0]
        have hov : ov = 0 := by rw [HOV.out, ht0]
        have hos : o = s.size := by rw [HOF.out, ht0]
        have hes : e = s.size := by rw [HFI.out, ht0]
        obtain ⟨hl1, hl2⟩ := drop_last h1 hnil
        have k1 : ((kd : Int) == 0) = true := by simp; omega
        have k2 : (tx.toList == []) = true := by rw [htx]; decide +kernel
        have k3 : (iv == 0) = true := by rw [hiv]; rfl
        have k4 : ((ov : Int) == 0) = true := by simp; omega
        have k5 : ((e : Int) == (o : Int)) = true := by simp; omega
        have k6 : ((o : Int) == (s.size : Int)) = true := by simp; omega
        have hwl : IntKind.i64.wrap ((ts.length : Int) - 1) = (ts.length : Int) - 1 := by rw [IntKind.wrap_i64]; omega
        have k7 : ((i : Int) == (ts.length : Int) - 1) = true := by rw [beq_iff_eq]; omega
        have HFIN : Hid (CutEnd s ts f o) := Lib.hid (.inl ⟨hf, t, ts.take i, by rw [HT.out]; exact hl2, by rw [← HKD.out, hkd]⟩)
        have HOS := Lib.hid (show o ≤ s.size by omega)
        clear hkd htx hiv hov hos hes hl1 hl2 ht0 hnil hf hr0 HHK
        go_wp2
        go_ret2
        exact ⟨⟨o, HOS.out, HFIN.out, rfl⟩, HB6.out⟩
      · have k1 : ((kd : Int) == 0) = false := by simp; omega
        have k2 : decide ((e : Int) ≤ (o : Int)) = false := decide_eq_false (by omega)
        have k3 : decide ((e : Int) > (s.size : Int)) = false := decide_eq_false (by omega)
        have o0 : (0 : Int) ≤ (o : Int) := by omega
        have oe : (o : Int) ≤ (e : Int) := by omega
        have es : (e : Int) ≤ (s.size : Int) := by omega
        obtain ⟨z, hz⟩ : ∃ z, z = s.extract o e := ⟨_, rfl⟩
        have hzs : z.size ≤ 65536 := by rw [← L_len, hz, cut_drop, List.length_take, List.length_drop, L_len]; omega
        rw [← hz] at hok
        have hok2 : TokOk (L z) kd ov (L tx) iv := by
          rw [HTX.out, tok_text]
          exact hok
        have HOK := Lib.hid hok2
        have HMU := Lib.hid hmu
        have HNX := Lib.hid hnx
        have HZ := Lib.hid hz
        clear hok hok2 hmu hnx hz HHK
        go_upto_region 10 with fail
        go_still_tail 20, (by kernel_rfl)
        change wpList _ _ _ _ _ w6.drew
        generalize hW : w6.drew = w7
        have HB7 : Hid (Below w.heap.size w w7) := Lib.hid (by rw [← hW]; exact HB6.out.drew)
        have q7 : w7.heap[wr.heap.size]? = some (.cells #[.int .i64 (kd : Int), .string tx, .int .i64 iv, .int .i64 (ov : Int), .int .i64 (o : Int), .int .i64 (e : Int)] 62) := by rw [← hW]; exact HQ.out
        have HQ7 := Lib.hid q7
        have h7z := (Array.getElem?_eq_some_iff.1 q7).1
        clear hW c0 c1 c2 c3 c4 c5 q7
        rw [← HZ.out]
        go_wp2_with fail
        refine (spells_any z tx kd ov o e B iv _ hzs (HG.out.below (HB7.out.mono hBz)) HOK.out).mono ?_
        rintro y w8 ⟨rfl, hb8⟩
        have q8 : w8.heap[wr.heap.size]? = some (.cells #[.int .i64 (kd : Int), .string tx, .int .i64 iv, .int .i64 (ov : Int), .int .i64 (o : Int), .int .i64 (e : Int)] 62) := by rw [hb8.block _ h7z]; exact HQ7.out
        have HB8 : Hid (Below w.heap.size w w8) := Lib.hid (HB7.out.trans (hb8.mono (by omega)))
        obtain ⟨c0, c1, c2, c3, c4, c5, _, _, _, _, _, _⟩ := row6 q8
        have HES := Lib.hid hes
        have HKN : Hid (∀ u ∈ ts.take (i + 1), u.kind ≠ 0) := Lib.hid (fun u hu => by
          rw [List.take_succ_eq_append_getElem h1, List.mem_append, List.mem_singleton] at hu
          rcases hu with hu | rfl
          · exact HK.out u hu
          · rw [← HT.out, ← HKD.out]; exact hk0)
        clear q8 hb8
        by_cases hend : e < s.size
        · have n1 : (e : Int) < (s.size : Int) := by omega
          have n2 : decide ((e : Int) < (s.size : Int)) = true := decide_eq_true n1
          have e0 : (0 : Int) ≤ (e : Int) := by omega
          obtain ⟨c, hc⟩ : ∃ c, c = s[e] := ⟨_, rfl⟩
          have hM := HMU.out
          rw [L_drop hend, ← hc] at hM
          have HM1 : Hid (kd ≤ 3 ∨ kd = 10 → isW c = false) := Lib.hid (fun h => by simpa [hdNot] using hM.1 h)
          have HM2 : Hid (kd = 11 ∧ (ov = 3 ∨ ov = 5) → c.toNat ≠ 61) := Lib.hid (fun h => by simpa [hdNot] using hM.2 h)
          have HC := Lib.hid hc
          clear hM hc
          by_cases a3 : kd ≤ 3
          · have d3 : decide ((kd : Int) ≤ 3) = true := decide_eq_true (by omega)
            have d11 : ((kd : Int) == 11) = false := by simp; omega
            have hw := HM1.out (.inl a3)
            clear a3
            go_wp2_with fail
            rw [← HC.out]
            refine (wordByte_any c _).mono ?_
            rintro y w' ⟨rfl, rfl⟩
            rw [hw]
            go_wp2
            go_roundw
            case rel => exact ⟨i + 1, e, by go_num, rfl, by omega, HES.out, HNX, HB8, HKN⟩
            case measure => simp only [intOf]; omega
          · have d3 : decide ((kd : Int) ≤ 3) = false := decide_eq_false (by omega)
            by_cases a10 : kd = 10
            · have d10 : ((kd : Int) == 10) = true := by simp; omega
              have d11 : ((kd : Int) == 11) = false := by simp; omega
              have hw := HM1.out (.inr a10)
              clear a3 a10
              go_wp2_with fail
              rw [← HC.out]
              refine (wordByte_any c _).mono ?_
              rintro y w' ⟨rfl, rfl⟩
              rw [hw]
              go_wp2
              go_roundw
              case rel => exact ⟨i + 1, e, by go_num, rfl, by omega, HES.out, HNX, HB8, HKN⟩
              case measure => simp only [intOf]; omega
            · have d10 : ((kd : Int) == 10) = false := by simp; omega
              by_cases a11 : kd = 11
              · have d11 : ((kd : Int) == 11) = true := by simp; omega
                by_cases b3 : ov = 3
                · have f3 : ((ov : Int) == 3) = true := by simp; omega
                  have hw : ((c.toNat : Int) == 61) = false := by have := HM2.out ⟨a11, .inl b3⟩; simp; omega
                  clear a3 a10 a11 b3
                  go_upto_region 14 with fail
                  rw [← HC.out]
                  go_wp2
                  go_roundw
                  case rel => exact ⟨i + 1, e, by go_num, rfl, by omega, HES.out, HNX, HB8, HKN⟩
                  case measure => simp only [intOf]; omega
                · have f3 : ((ov : Int) == 3) = false := by simp; omega
                  by_cases b5 : ov = 5
                  · have f5 : ((ov : Int) == 5) = true := by simp; omega
                    have hw : ((c.toNat : Int) == 61) = false := by have := HM2.out ⟨a11, .inr b5⟩; simp; omega
                    clear a3 a10 a11 b3 b5
                    go_upto_region 14 with fail
                    rw [← HC.out]
                    go_wp2
                    go_roundw
                    case rel => exact ⟨i + 1, e, by go_num, rfl, by omega, HES.out, HNX, HB8, HKN⟩
                    case measure => simp only [intOf]; omega
                  · have f5 : ((ov : Int) == 5) = false := by simp; omega
                    clear a3 a10 a11 b3 b5
                    go_wp2
                    go_roundw
                    case rel => exact ⟨i + 1, e, by go_num, rfl, by omega, HES.out, HNX, HB8, HKN⟩
                    case measure => simp only [intOf]; omega
              · have d11 : ((kd : Int) == 11) = false := by simp; omega
                clear a3 a10 a11
                go_wp2
                go_roundw
                case rel => exact ⟨i + 1, e, by go_num, rfl, by omega, HES.out, HNX, HB8, HKN⟩
                case measure => simp only [intOf]; omega
        · have n1 : ¬ (e : Int) < (s.size : Int) := by omega
          have n3 : ¬ e < s.size := by omega
          clear hend
          go_wp2
          go_roundw
          case rel => exact ⟨i + 1, e, by go_num, rfl, by omega, HES.out, HNX, HB8, HKN⟩
          case measure => simp only [intOf]; omega
    · have iI : ¬ (i : Int) < (ts.length : Int) := by omega
      have hie : i = ts.length := by omega
      have HFIN : Hid (CutEnd s ts f p) := Lib.hid (.inr ⟨by have := HSc.out; rw [hie, List.drop_length] at this; exact this, fun t ht => HK.out t (by rw [hie, List.take_length]; exact ht)⟩)
      have HP := Lib.hid hp
      clear hie
      go_wp2
      go_ret2
      exact ⟨⟨p, HP.out, HFIN.out, rfl⟩, HB.out⟩
end Go.Proofs.YtncdjkdpoinfaaaGreatDoor
