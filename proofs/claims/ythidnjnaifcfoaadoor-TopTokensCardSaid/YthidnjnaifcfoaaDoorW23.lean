/-
  The walk of edicttop.scanned. Conditions: the variables hold what the program's text lays.
-/
import Derived.Test.YthidnjnaifcfoaaDoorW22
import Derived.Deep.RegionHeld3
namespace Go.Proofs.YthidnjnaifcfoaaDoor
open Go.RowKit Go.Shelf Pl

theorem results_three {P : Program} {fn : Func} {p u q : Tmp} {tz : TypeId} (h : fn.results = #[.tmp p, .cell u tz, .tmp q]) (tmps : Array Value) (w : World) (v v2 : Value) (g2 : Nat) (t2 : TypeId) (cs2 : Array Value) (fr2 : Nat × Nat) (d2 : TypeDesc)
    (hp : tmps.getD p undef = v) (hq : tmps.getD q undef = v2)
    (hp2 : tmps.getD u undef = .pointer (some ⟨g2, 0, none⟩)) (hg2 : w.heap[g2]? = some (.cells cs2 t2 fr2))
    (hu2 : P.underlying tz = some d2) (hd2 : (match d2 with | .struct _ | .array _ _ => true | _ => false) = true) (hi2 : (P.info? tz).map (·.size) = some cs2.size) :
    (results fn tmps).run P w = .ok (.tuple #[v, .agg cs2, v2]) w := by
  have hp' : tmps[p]?.getD undef = v := by simpa using hp
  have hq' : tmps[q]?.getD undef = v2 := by simpa using hq
  have hp2' : tmps[u]?.getD undef = .pointer (some ⟨g2, 0, none⟩) := by simpa using hp2
  simp [results, h, hp', hq', hp2', asAddr, run_loadVar_row w g2 t2 tz cs2 fr2 d2 hg2 hu2 hd2 hi2]
theorem cell_three {w : World} {D R i : Nat} {u x y z : Value} (h : w.cell? ⟨D, i, none⟩ = some u) (hne : D ≠ R) : (((w.setCell ⟨R, 0, none⟩ x).setCell ⟨R, 1, none⟩ y).setCell ⟨R, 2, none⟩ z).cell? ⟨D, i, none⟩ = some u := by
  rw [← h]
  exact World.cell?_of_block (by rw [Below.heap_setCell _ _ _ _ hne, Below.heap_setCell _ _ _ _ hne, Below.heap_setCell _ _ _ _ hne])
theorem sc_stuck {s : ByteArray} {p : Nat} {f : Nat × Nat} (h : Sc (L s) p [] f) : StFault s.size (gap .out ((L s).drop p)) = f ∧ f.1 ≠ 0 := by
  cases h with
  | openC p st h1 => rw [h1, L_len]; exact ⟨rfl, by simp⟩
  | fault p r a code h1 h2 =>
    rw [h1, L_len]
    refine ⟨?_, (fault_code h2).1⟩
    show NxFault s.size (next r) = _
    rw [h2]; rfl
theorem stuck_is (s : ByteArray) (p c q : Nat) (w : World) (hp : p ≤ s.size) (hs : s.size ≤ 65536) (hT : StFault s.size (gap .out ((L s).drop p)) = (c, q)) :
    Calls Tryd.prog 10 #[.string s, .int .i64 (p : Int)] w fun e w' => e = .returned (.agg #[.int .i64 (c : Int), .int .i64 0, .int .i64 (q : Int)]) ∧ Below w.heap.size w w' := by
  have h := stuck_any s p w hp hs
  rw [hT] at h
  exact h

set_option maxRecDepth 100000 in
set_option maxHeartbeats 3200000 in
theorem scanned_any (s : ByteArray) (ts : List Tk) (f : Nat × Nat) (B : Nat) (w : World) (hs : s.size ≤ 65536) (hG : Gl B w) (hSc : Sc (L s) 0 ts f) :
    Calls Tryd.prog 5 #[.string s] w fun e w' => ∃ v, e = .returned (.tuple #[v, FaultV f.1 f.2, .bool true]) ∧ w'.ownsRow w.heap.size 32 6 v ts.length (flatT ts) ∧ Below w.heap.size w w' := by
  obtain ⟨fc, fo⟩ := f
  have htl := sc_len hSc (Nat.zero_le _)
  rw [L_len] at htl
  have hBz := hG.lt
  have hgt : decide ((s.size : Int) > 65536) = false := decide_eq_false (by omega)
  have HSC := Lib.hid hSc
  have HG := Lib.hid hG
  obtain ⟨w1, hw1⟩ : ∃ w1, w1 = w.alloc (.cells #[.int .i64 0, .int .i64 0, .int .i64 0] 25) := ⟨_, rfl⟩
  have h1 : Below w.heap.size w w1 := by rw [hw1]; exact up_alloc _ _
  have h1z : w1.heap.size = w.heap.size + 1 := by rw [hw1]; simp
  have hr1 : w1.heap[w.heap.size]? = some (.cells #[.int .i64 0, .int .i64 0, .int .i64 0] 25) := by rw [hw1]; exact heap_alloc_new _ _
  have H1 := Lib.hid h1
  have HR1 := Lib.hid hr1
  have HW1 := Lib.hid hw1
  clear hSc hG h1 hr1 hw1
  go_enter Tryd.func5, Tryd.ntmps5
  go_upto_region 1 with fail
  rw [← HW1.out]
  go_wp2_with fail
  refine (scan_any s B ts (fc, fo) _ hs HSC.out (HG.out.below (H1.out.mono hBz))).mono ?_
  rintro e w5 ⟨v, he, ho, hb⟩
  have he2 : e = .returned (.tuple #[v, .agg #[.int .i64 (fc : Int), .int .i64 0, .int .i64 (fo : Int)]]) := he
  subst he2
  have h5z := hb.size
  obtain ⟨va, vc, rfl⟩ : ∃ va vc, v = .slice va ts.length vc := by
    rcases Joins.ownsRow_forms ho with ⟨h5, h6⟩ | ⟨g, cap, h5⟩
    · exact ⟨none, 0, by rw [h5, h6]⟩
    · exact ⟨_, cap, h5⟩
  have HO5 := Lib.hid ho
  have HB5 := Lib.hid hb
  clear he ho hb
  go_upto_region 4 with fail
  obtain ⟨w6, hw6⟩ : ∃ w6, w6 = w5.alloc (.cells #[.int .i64 (fc : Int), .int .i64 0, .int .i64 (fo : Int)] 25) := ⟨_, rfl⟩
  rw [← hw6]
  have HO6 : Hid (w6.ownsRow w1.heap.size 32 6 (.slice va ts.length vc) ts.length (flatT ts)) := Lib.hid (by rw [hw6]; exact HO5.out.alloc _)
  have HB6 : Hid (Below w1.heap.size w1 w6) := Lib.hid (by rw [hw6]; exact HB5.out.alloc h5z _)
  have HF6 : Hid (w6.heap[w5.heap.size]? = some (.cells #[.int .i64 (fc : Int), .int .i64 0, .int .i64 (fo : Int)] 25)) := Lib.hid (by rw [hw6]; exact heap_alloc_new _ _)
  have h6z : w6.heap.size = w5.heap.size + 1 := by rw [hw6]; simp
  clear hw6
  go_wp2_with fail
  refine (cut_any s ts (fc, fo) _ B w1.heap.size _ hs (HG.out.below ((H1.out.mono hBz).trans (HB6.out.mono (by omega)))) HSC.out HO6.out).mono ?_
  rintro e w7 ⟨⟨p, hp, hce, rfl⟩, hb7⟩
  have HCE := Lib.hid hce
  have h7z := hb7.size
  have hq6 : w7.heap[w5.heap.size]? = some (.cells #[.int .i64 (fc : Int), .int .i64 0, .int .i64 (fo : Int)] 25) := by rw [hb7.block _ (by omega)]; exact HF6.out
  have hqr : w7.heap[w.heap.size]? = some (.cells #[.int .i64 0, .int .i64 0, .int .i64 0] 25) := by rw [hb7.block _ (by omega), HB6.out.block _ (by omega)]; exact HR1.out
  have HO7 : Hid (w7.ownsRow w1.heap.size 32 6 (.slice va ts.length vc) ts.length (flatT ts)) := Lib.hid (own_oth HO6.out (fun k c hk => hb7.block k (Array.getElem?_eq_some_iff.1 hk).1))
  have HB7 : Hid (Below w.heap.size w w7) := Lib.hid (H1.out.trans ((HB6.out.trans (hb7.mono (by omega))).mono (by omega)))
  have HQ6 := Lib.hid hq6
  have HQR := Lib.hid hqr
  obtain ⟨x0, x1, x2, xf0, xf1, xf2⟩ := row3 hq6
  obtain ⟨y0, y1, y2, yf0, yf1, yf2⟩ := row3 hqr
  clear hce hb7 hq6 hqr
  rcases HCE.out with ⟨hf, t, ts', hts, hk0⟩ | ⟨hsc, hkn⟩
  · have hfc : fc = 0 := congrArg Prod.fst hf
    have hfo : fo = 0 := congrArg Prod.snd hf
    obtain ⟨m, hm⟩ : ∃ m, m = ts'.length := ⟨_, rfl⟩
    have hlen : ts.length = m + 1 := by rw [hts, List.length_append, hm]; rfl
    obtain ⟨g, rfl⟩ : ∃ g, va = some ⟨g, 0, none⟩ := by
      obtain ⟨g, cap, h5⟩ := Joins.ownsRow_form HO7.out (by omega)
      injection h5 with h6 _ _
      exact ⟨g, h6⟩
    have hmt : m < ts.length := by omega
    have htm : ts[m].kind = 0 := by
      have : ts[m]'hmt = t := by
        simp only [hts, hm]
        simp
      rw [this]; exact hk0
    have z0 := (tok_cells HO7.out hmt).1
    rw [htm] at z0
    have z0' : w7.cell? ⟨g, m * 6, none⟩ = some (.int .i64 0) := z0
    have m0 : (0 : Int) ≤ (m : Int) := by omega
    have m1 : (m : Int) < (ts.length : Int) := by omega
    have hwl : IntKind.i64.wrap ((ts.length : Int) - 1) = (m : Int) := by rw [IntKind.wrap_i64]; omega
    have hln : decide ((ts.length : Int) > 0) = true := decide_eq_true (by omega)
    have hln2 : (0 : Int) < (ts.length : Int) := by omega
    have hln3 : 0 < ts.length := by omega
    have HH := Lib.hid (three_set (x := .int .i64 (fc : Int)) (y := .int .i64 0) (z := .int .i64 (fo : Int)) HQR.out)
    have HH2 : Hid ((((w7.setCell ⟨w.heap.size, 0, none⟩ (.int .i64 (fc : Int))).setCell ⟨w.heap.size, 1, none⟩ (.int .i64 0)).setCell ⟨w.heap.size, 2, none⟩ (.int .i64 (fo : Int))).drew.heap[w.heap.size]? = some (.cells #[.int .i64 (fc : Int), .int .i64 0, .int .i64 (fo : Int)] 25)) := Lib.hid (by rw [drew_heap]; exact HH.out)
    have HOF := Lib.hid (own_oth (w' := (((w7.setCell ⟨w.heap.size, 0, none⟩ (.int .i64 (fc : Int))).setCell ⟨w.heap.size, 1, none⟩ (.int .i64 0)).setCell ⟨w.heap.size, 2, none⟩ (.int .i64 (fo : Int)))) (World.ownsRow.mono HO7.out (by omega : w.heap.size ≤ w1.heap.size)) (fun k c hc => by
      have hk : k ≠ w.heap.size := fun e => by rw [e, HQR.out] at hc; simp at hc
      rw [Below.heap_setCell _ _ _ _ hk, Below.heap_setCell _ _ _ _ hk, Below.heap_setCell _ _ _ _ hk]))
    have HBF : Hid (Below w.heap.size w (((w7.setCell ⟨w.heap.size, 0, none⟩ (.int .i64 (fc : Int))).setCell ⟨w.heap.size, 1, none⟩ (.int .i64 0)).setCell ⟨w.heap.size, 2, none⟩ (.int .i64 (fo : Int))).drew) := Lib.hid (((HB7.out.setCell (Nat.le_refl _) _).setCell (Nat.le_refl _) _).setCell (Nat.le_refl _) _).drew
    have e1 : ((fc : Int) == 0) = true := by simp; omega
    have e2 : ((fo : Int) == 0) = true := by simp; omega
    clear hts hk0 htm z0 hm hlen hf HCE hfc hfo
    go_upto_region 8 with fail
    go_region
    all_goals
      go_wp2
      refine bodyPost_ret (results_three rfl _ _ (.slice (some ⟨g, 0, none⟩) ts.length vc) (.bool true) w.heap.size 25 _ (0, 0) _ rfl rfl rfl HH2.out Tryd.underlying25 rfl Tryd.size25) rfl ?_
      exact ⟨_, rfl, HOF.out.drew, HBF.out⟩
  · obtain ⟨hst, hfc0⟩ := sc_stuck hsc
    have hfc0 : fc ≠ 0 := hfc0
    by_cases hts : ts = []
    · have hlen : ts.length = 0 := by rw [hts]; rfl
      have hln : decide ((ts.length : Int) > 0) = false := decide_eq_false (by omega)
      have hln2 : ¬ (0 : Int) < (ts.length : Int) := by omega
      have hln3 : ¬ 0 < ts.length := by omega
      have hne5 : w5.heap.size ≠ w.heap.size := by omega
      clear hlen hts
      have HT := Lib.hid hst
      have ec : ((fc : Int) == 0) = false := by simp; omega
      clear hst hfc0 HCE
      go_upto_region 9 with fail
      go_region_held3 (fun w' => w'.cell? ⟨w5.heap.size, 0, none⟩ = some (.int .i64 (fc : Int)) ∧ w'.cell? ⟨w5.heap.size, 1, none⟩ = some (.int .i64 0) ∧ w'.cell? ⟨w5.heap.size, 2, none⟩ = some (.int .i64 (fo : Int)))
        (first | exact ⟨x0, x1, x2⟩ | exact ⟨n0, n1, n2⟩ | exact ⟨cell_three n0 hne5, cell_three n1 hne5, cell_three n2 hne5⟩)
        (first
          | (go_at_call 10; refine (stuck_is s p fc fo _ hp hs HT.out).mono ?_; rintro e w8 ⟨rfl, hb8⟩; have hq8 : w8.heap[w5.heap.size]? = some (.cells #[.int .i64 (fc : Int), .int .i64 0, .int .i64 (fo : Int)] 25) := (by rw [hb8.block _ (show w5.heap.size < w7.drew.heap.size by rw [drew_heap]; omega)]; exact HQ6.out); have hq9 : w8.heap[w.heap.size]? = some (.cells #[.int .i64 0, .int .i64 0, .int .i64 0] 25) := (by rw [hb8.block _ (show w.heap.size < w7.drew.heap.size by rw [drew_heap]; omega)]; exact HQR.out); have hn8 := row3 hq8; have hn9 := row3 hq9; have n0 := hn8.1; have n1 := hn8.2.1; have n2 := hn8.2.2.1; have r0 := hn9.1; have r1 := hn9.2.1; have r2 := hn9.2.2.1; have rf0 := hn9.2.2.2.1; have rf1 := hn9.2.2.2.2.1; have rf2 := hn9.2.2.2.2.2; have HQ9 := Lib.hid hq9; have HB8 := Lib.hid hb8; clear hb8 hq8 hq9 hn8 hn9))
      have HH := Lib.hid (three_set (x := .int .i64 (fc : Int)) (y := .int .i64 0) (z := .int .i64 (fo : Int)) HQ9.out)
      have HO8 : Hid (w8.ownsRow w1.heap.size 32 6 (.slice va ts.length vc) ts.length (flatT ts)) := Lib.hid (own_oth HO7.out (fun k c hk => HB8.out.block k (Array.getElem?_eq_some_iff.1 hk).1))
      have HOF := Lib.hid (own_oth (w' := (((w8.setCell ⟨w.heap.size, 0, none⟩ (.int .i64 (fc : Int))).setCell ⟨w.heap.size, 1, none⟩ (.int .i64 0)).setCell ⟨w.heap.size, 2, none⟩ (.int .i64 (fo : Int)))) (World.ownsRow.mono HO8.out (by omega : w.heap.size ≤ w1.heap.size)) (fun k c hc => by
        have hk : k ≠ w.heap.size := fun e => by rw [e, HQ9.out] at hc; simp at hc
        rw [Below.heap_setCell _ _ _ _ hk, Below.heap_setCell _ _ _ _ hk, Below.heap_setCell _ _ _ _ hk]))
      have HBF : Hid (Below w.heap.size w (((w8.setCell ⟨w.heap.size, 0, none⟩ (.int .i64 (fc : Int))).setCell ⟨w.heap.size, 1, none⟩ (.int .i64 0)).setCell ⟨w.heap.size, 2, none⟩ (.int .i64 (fo : Int)))) := Lib.hid ((((HB7.out.drew.trans (HB8.out.mono (by rw [drew_heap]; omega))).setCell (Nat.le_refl _) _).setCell (Nat.le_refl _) _).setCell (Nat.le_refl _) _)
      go_wp2
      refine bodyPost_ret (results_three rfl _ _ (.slice va ts.length vc) (.bool true) w.heap.size 25 _ (0, 0) _ rfl rfl rfl HH.out Tryd.underlying25 rfl Tryd.size25) rfl ?_
      exact ⟨_, rfl, HOF.out, HBF.out⟩
    · obtain ⟨m, hm⟩ : ∃ m, ts.length = m + 1 := by
        cases ts with
        | nil => exact absurd rfl hts
        | cons t ts' => exact ⟨ts'.length, rfl⟩
      obtain ⟨g, rfl⟩ : ∃ g, va = some ⟨g, 0, none⟩ := by
        obtain ⟨g, cap, h5⟩ := Joins.ownsRow_form HO7.out (by omega)
        injection h5 with h6 _ _
        exact ⟨g, h6⟩
      have hmt : m < ts.length := by omega
      have htm : ts[m].kind ≠ 0 := hkn _ (List.getElem_mem hmt)
      obtain ⟨km, hkm⟩ : ∃ km, km = ts[m].kind := ⟨_, rfl⟩
      have z0 := (tok_cells HO7.out hmt).1
      rw [← hkm] at z0 htm
      have z0' : w7.cell? ⟨g, m * 6, none⟩ = some (.int .i64 (km : Int)) := z0
      have ek : ((km : Int) == 0) = false := by simp; omega
      have m0 : (0 : Int) ≤ (m : Int) := by omega
      have m1 : (m : Int) < (ts.length : Int) := by omega
      have hwl : IntKind.i64.wrap ((ts.length : Int) - 1) = (m : Int) := by rw [IntKind.wrap_i64]; omega
      have hln : decide ((ts.length : Int) > 0) = true := decide_eq_true (by omega)
      have hln2 : (0 : Int) < (ts.length : Int) := by omega
      have hln3 : 0 < ts.length := by omega
      have hne5 : w5.heap.size ≠ w.heap.size := by omega
      clear hts htm hkm z0 hm
      have HT := Lib.hid hst
      have ec : ((fc : Int) == 0) = false := by simp; omega
      clear hst hfc0 HCE
      go_upto_region 9 with fail
      go_region_held3 (fun w' => w'.cell? ⟨w5.heap.size, 0, none⟩ = some (.int .i64 (fc : Int)) ∧ w'.cell? ⟨w5.heap.size, 1, none⟩ = some (.int .i64 0) ∧ w'.cell? ⟨w5.heap.size, 2, none⟩ = some (.int .i64 (fo : Int)))
        (first | exact ⟨x0, x1, x2⟩ | exact ⟨n0, n1, n2⟩ | exact ⟨cell_three n0 hne5, cell_three n1 hne5, cell_three n2 hne5⟩)
        (first
          | (go_at_call 10; refine (stuck_is s p fc fo _ hp hs HT.out).mono ?_; rintro e w8 ⟨rfl, hb8⟩; have hq8 : w8.heap[w5.heap.size]? = some (.cells #[.int .i64 (fc : Int), .int .i64 0, .int .i64 (fo : Int)] 25) := (by rw [hb8.block _ (show w5.heap.size < w7.drew.heap.size by rw [drew_heap]; omega)]; exact HQ6.out); have hq9 : w8.heap[w.heap.size]? = some (.cells #[.int .i64 0, .int .i64 0, .int .i64 0] 25) := (by rw [hb8.block _ (show w.heap.size < w7.drew.heap.size by rw [drew_heap]; omega)]; exact HQR.out); have hn8 := row3 hq8; have hn9 := row3 hq9; have n0 := hn8.1; have n1 := hn8.2.1; have n2 := hn8.2.2.1; have r0 := hn9.1; have r1 := hn9.2.1; have r2 := hn9.2.2.1; have rf0 := hn9.2.2.2.1; have rf1 := hn9.2.2.2.2.1; have rf2 := hn9.2.2.2.2.2; have HQ9 := Lib.hid hq9; have HB8 := Lib.hid hb8; clear hb8 hq8 hq9 hn8 hn9))
      have HH := Lib.hid (three_set (x := .int .i64 (fc : Int)) (y := .int .i64 0) (z := .int .i64 (fo : Int)) HQ9.out)
      have HO8 : Hid (w8.ownsRow w1.heap.size 32 6 (.slice (some ⟨g, 0, none⟩) ts.length vc) ts.length (flatT ts)) := Lib.hid (own_oth HO7.out (fun k c hk => HB8.out.block k (Array.getElem?_eq_some_iff.1 hk).1))
      have HOF := Lib.hid (own_oth (w' := (((w8.setCell ⟨w.heap.size, 0, none⟩ (.int .i64 (fc : Int))).setCell ⟨w.heap.size, 1, none⟩ (.int .i64 0)).setCell ⟨w.heap.size, 2, none⟩ (.int .i64 (fo : Int)))) (World.ownsRow.mono HO8.out (by omega : w.heap.size ≤ w1.heap.size)) (fun k c hc => by
        have hk : k ≠ w.heap.size := fun e => by rw [e, HQ9.out] at hc; simp at hc
        rw [Below.heap_setCell _ _ _ _ hk, Below.heap_setCell _ _ _ _ hk, Below.heap_setCell _ _ _ _ hk]))
      have HBF : Hid (Below w.heap.size w (((w8.setCell ⟨w.heap.size, 0, none⟩ (.int .i64 (fc : Int))).setCell ⟨w.heap.size, 1, none⟩ (.int .i64 0)).setCell ⟨w.heap.size, 2, none⟩ (.int .i64 (fo : Int)))) := Lib.hid ((((HB7.out.drew.trans (HB8.out.mono (by rw [drew_heap]; omega))).setCell (Nat.le_refl _) _).setCell (Nat.le_refl _) _).setCell (Nat.le_refl _) _)
      go_wp2
      refine bodyPost_ret (results_three rfl _ _ (.slice (some ⟨g, 0, none⟩) ts.length vc) (.bool true) w.heap.size 25 _ (0, 0) _ rfl rfl rfl HH.out Tryd.underlying25 rfl Tryd.size25) rfl ?_
      exact ⟨_, rfl, HOF.out, HBF.out⟩

set_option maxRecDepth 100000 in
set_option maxHeartbeats 3200000 in
theorem scanned_long (s : ByteArray) (w : World) (hs : ¬ s.size ≤ 65536) :
    Calls Tryd.prog 5 #[.string s] w fun e w' => e = .returned (.tuple #[.slice none 0 0, FaultV 1 0, .bool true]) ∧ Below w.heap.size w w' := by
  have hgt : decide ((s.size : Int) > 65536) = true := decide_eq_true (by omega)
  obtain ⟨w1, hw1⟩ : ∃ w1, w1 = w.alloc (.cells #[.int .i64 0, .int .i64 0, .int .i64 0] 25) := ⟨_, rfl⟩
  have h1 : Below w.heap.size w w1 := by rw [hw1]; exact up_alloc _ _
  have h1z : w1.heap.size = w.heap.size + 1 := by rw [hw1]; simp
  have hr1 : w1.heap[w.heap.size]? = some (.cells #[.int .i64 0, .int .i64 0, .int .i64 0] 25) := by rw [hw1]; exact heap_alloc_new _ _
  have H1 := Lib.hid h1
  have HR1 := Lib.hid hr1
  have HW1 := Lib.hid hw1
  clear h1 hr1 hw1
  go_enter Tryd.func5, Tryd.ntmps5
  go_upto_region 1 with fail
  rw [← HW1.out]
  go_wp2_with fail
  refine (scan_long s _ hs).mono ?_
  rintro e w5 ⟨he, hb⟩
  have he2 : e = .returned (.tuple #[.slice none 0 0, .agg #[.int .i64 1, .int .i64 0, .int .i64 0]]) := he
  subst he2
  have h5z := hb.size
  have HB5 := Lib.hid hb
  clear he hb
  go_upto_region 3 with fail
  obtain ⟨w6, hw6⟩ : ∃ w6, w6 = w5.alloc (.cells #[.int .i64 1, .int .i64 0, .int .i64 0] 25) := ⟨_, rfl⟩
  rw [← hw6]
  have q6 : w6.heap[w5.heap.size]? = some (.cells #[.int .i64 1, .int .i64 0, .int .i64 0] 25) := by rw [hw6]; exact heap_alloc_new _ _
  have qr : w6.heap[w.heap.size]? = some (.cells #[.int .i64 0, .int .i64 0, .int .i64 0] 25) := by
    rw [hw6, Below.heap_alloc _ _ _ (by omega), HB5.out.block _ (by omega)]; exact HR1.out
  have B6 : Below w.heap.size w w6 := by rw [hw6]; exact (H1.out.trans (HB5.out.mono (by omega))).alloc (by omega) _
  obtain ⟨x0, x1, x2, xf0, xf1, xf2⟩ := row3 q6
  obtain ⟨y0, y1, y2, yf0, yf1, yf2⟩ := row3 qr
  have HH2 : Hid ((((w6.setCell ⟨w.heap.size, 0, none⟩ (.int .i64 1)).setCell ⟨w.heap.size, 1, none⟩ (.int .i64 0)).setCell ⟨w.heap.size, 2, none⟩ (.int .i64 0)).drew.heap[w.heap.size]? = some (.cells #[.int .i64 1, .int .i64 0, .int .i64 0] 25)) := Lib.hid (by rw [drew_heap]; exact three_set qr)
  have HBF : Hid (Below w.heap.size w (((w6.setCell ⟨w.heap.size, 0, none⟩ (.int .i64 1)).setCell ⟨w.heap.size, 1, none⟩ (.int .i64 0)).setCell ⟨w.heap.size, 2, none⟩ (.int .i64 0)).drew) := Lib.hid (((B6.setCell (Nat.le_refl _) _).setCell (Nat.le_refl _) _).setCell (Nat.le_refl _) _).drew
  clear q6 qr B6 hw6
  go_region
  all_goals
    go_wp2
    refine bodyPost_ret (results_three rfl _ _ (.slice none 0 0) (.bool true) w.heap.size 25 _ (0, 0) _ rfl rfl rfl HH2.out Tryd.underlying25 rfl Tryd.size25) rfl ?_
    exact ⟨rfl, HBF.out⟩
end Go.Proofs.YthidnjnaifcfoaaDoor
