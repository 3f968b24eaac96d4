/-
  Texts of this seat, one behind the other: W23, W24, W26, W27, W28. Conditions: those that each of them states.
-/
import Derived.Test.YtncdjkdpoinfaaaGreatDoorG10
import Derived.Deep.RegionHeld3
import Derived.Lib.LaidTab
import Derived.Stop.LaidErr
import Derived.Deep.Slices
import Derived.Deep.Strs
import Derived.OpenShut
import Derived.Test.YtncdjkdpoinfaaaGreatDoorG2
/-
  The walk of edicttop.scanned. Conditions: the variables hold what the program's text lays.
-/
namespace Go.Proofs.YtncdjkdpoinfaaaGreatDoor
open Go.RowKit Go.Shelf Pl

theorem results_three {P : Program} {fn : Func} {p u q : Tmp} {tz : TypeId} (h : fn.results = #[.tmp p, .cell u tz, .tmp q]) (tmps : Array Value) (w : World) (v v2 : Value) (g2 : Nat) (t2 : TypeId) (cs2 : Array Value) (fr2 : Nat × Nat) (d2 : TypeDesc)
    (hp : tmps.getD p undef = v) (hq : tmps.getD q undef = v2)
    (hp2 : tmps.getD u undef = .pointer (some ⟨g2, 0, none⟩)) (hg2 : w.heap[g2]? = some (.cells cs2 t2 fr2))
    (hu2 : P.underlying tz = some d2) (hd2 : (match d2 with | .struct _ | .array _ _ => true | _ => false) = true) (hi2 : (P.info? tz).map (·.size) = some cs2.size) :
    (results fn tmps).run P w = .ok (.tuple #[v, .agg cs2, v2]) w := by
  have hp' : tmps[p]?.getD undef = v := by simpa using hp
  have hq' : tmps[q]?.getD undef = v2 := by simpa using hq
  have hp2' : tmps[u]?.getD undef = .pointer (some ⟨g2, 0, none⟩) := by simpa using hp2
  simp [results, h, hp', hq', hp2', asAddr, run_loadVar_row w g2 t2 tz cs2 fr2 d2 hg2 hu2 hd2 hi2]
theorem cell_three {w : World} {D R i : Nat} {u x y z : Value} (h : w.cell? ⟨D, i, none⟩ = some u) (hne : D ≠ R) : (((w.setCell ⟨R, 0, none⟩ x).setCell ⟨R, 1, none⟩ y).setCell ⟨R, 2, none⟩ z).cell? ⟨D, i, none⟩ = some u := by
  rw [← h]
  exact World.cell?_of_block (by rw [Below.heap_setCell _ _ _ _ hne, Below.heap_setCell _ _ _ _ hne, Below.heap_setCell _ _ _ _ hne])
theorem sc_stuck {s : ByteArray} {p : Nat} {f : Nat × Nat} (h : Sc (L s) p [] f) : StFault s.size (gap .out ((L s).drop p)) = f ∧ f.1 ≠ 0 := by
  cases h with
  | openC p st h1 => rw [h1, L_len]; exact ⟨rfl, by simp⟩
  | fault p r a code h1 h2 =>
    rw [h1, L_len]
    refine ⟨?_, (fault_code h2).1⟩
    show NxFault s.size (next r) = _
    rw [h2]; rfl
theorem stuck_is (s : ByteArray) (p c q : Nat) (w : World) (hp : p ≤ s.size) (hs : s.size ≤ 65536) (hT : StFault s.size (gap .out ((L s).drop p)) = (c, q)) :
    Calls Tryz.prog 23 #[.string s, .int .i64 (p : Int)] w fun e w' => e = .returned (.agg #[.int .i64 (c : Int), .int .i64 0, .int .i64 (q : Int)]) ∧ Below w.heap.size w w' := by
  have h := stuck_any s p w hp hs
  rw [hT] at h
  exact h

set_option maxRecDepth 100000 in
set_option maxHeartbeats 3200000 in
theorem scanned_any (s : ByteArray) (ts : List Tk) (f : Nat × Nat) (B : Nat) (w : World) (hs : s.size ≤ 65536) (hG : Gl B w) (hSc : Sc (L s) 0 ts f) :
    Calls Tryz.prog 5 #[.string s] w fun e w' => ∃ v, e = .returned (.tuple #[v, FaultV f.1 f.2, .bool true]) ∧ w'.ownsRow w.heap.size 62 6 v ts.length (flatT ts) ∧ Below w.heap.size w w' := by
  obtain ⟨fc, fo⟩ := f
  have htl := sc_len hSc (Nat.zero_le _)
  rw [L_len] at htl
  have hBz := hG.lt
  have hgt : decide ((s.size : Int) > 65536) = false := decide_eq_false (by omega)
  have HSC := Lib.hid hSc
  have HG := Lib.hid hG
  obtain ⟨w1, hw1⟩ : ∃ w1, w1 = w.alloc (.cells #[.int .i64 0, .int .i64 0, .int .i64 0] 27) := ⟨_, rfl⟩
  have h1 : Below w.heap.size w w1 := by rw [hw1]; exact up_alloc _ _
  have h1z : w1.heap.size = w.heap.size + 1 := by rw [hw1]; simp
  have hr1 : w1.heap[w.heap.size]? = some (.cells #[.int .i64 0, .int .i64 0, .int .i64 0] 27) := by rw [hw1]; exact heap_alloc_new _ _
  have H1 := Lib.hid h1
  have HR1 := Lib.hid hr1
  have HW1 := Lib.hid hw1
  clear hSc hG h1 hr1 hw1
  go_enter Tryz.func5, Tryz.ntmps5
  go_upto_region 1 with fail
  rw [← HW1.out]
  go_wp2_with fail
  refine (scan_any s B ts (fc, fo) _ hs HSC.out (HG.out.below (H1.out.mono hBz))).mono ?_
  rintro e w5 ⟨v, he, ho, hb⟩
  have he2 : e = .returned (.tuple #[v, .agg #[.int .i64 (fc : Int), .int .i64 0, .int .i64 (fo : Int)]]) := he
  subst he2
  have h5z := hb.size
  obtain ⟨va, vc, rfl⟩ : ∃ va vc, v = .slice va ts.length vc := by
    rcases Joins.ownsRow_forms ho with ⟨h5, h6⟩ | ⟨g, cap, h5⟩
    · exact ⟨none, 0, by rw [h5, h6]⟩
    · exact ⟨_, cap, h5⟩
  have HO5 := Lib.hid ho
  have HB5 := Lib.hid hb
  clear he ho hb
  go_upto_region 4 with fail
  obtain ⟨w6, hw6⟩ : ∃ w6, w6 = w5.alloc (.cells #[.int .i64 (fc : Int), .int .i64 0, .int .i64 (fo : Int)] 27) := ⟨_, rfl⟩
  rw [← hw6]
  have HO6 : Hid (w6.ownsRow w1.heap.size 62 6 (.slice va ts.length vc) ts.length (flatT ts)) := Lib.hid (by rw [hw6]; exact HO5.out.alloc _)
  have HB6 : Hid (Below w1.heap.size w1 w6) := Lib.hid (by rw [hw6]; exact HB5.out.alloc h5z _)
  have HF6 : Hid (w6.heap[w5.heap.size]? = some (.cells #[.int .i64 (fc : Int), .int .i64 0, .int .i64 (fo : Int)] 27)) := Lib.hid (by rw [hw6]; exact heap_alloc_new _ _)
  have h6z : w6.heap.size = w5.heap.size + 1 := by rw [hw6]; simp
  clear hw6
  go_wp2_with fail
  refine (cut_any s ts (fc, fo) _ B w1.heap.size _ hs (HG.out.below ((H1.out.mono hBz).trans (HB6.out.mono (by omega)))) HSC.out HO6.out).mono ?_
  rintro e w7 ⟨⟨p, hp, hce, rfl⟩, hb7⟩
  have HCE := Lib.hid hce
  have h7z := hb7.size
  have hq6 : w7.heap[w5.heap.size]? = some (.cells #[.int .i64 (fc : Int), .int .i64 0, .int .i64 (fo : Int)] 27) := by rw [hb7.block _ (by omega)]; exact HF6.out
  have hqr : w7.heap[w.heap.size]? = some (.cells #[.int .i64 0, .int .i64 0, .int .i64 0] 27) := by rw [hb7.block _ (by omega), HB6.out.block _ (by omega)]; exact HR1.out
  have HO7 : Hid (w7.ownsRow w1.heap.size 62 6 (.slice va ts.length vc) ts.length (flatT ts)) := Lib.hid (own_oth HO6.out (fun k c hk => hb7.block k (Array.getElem?_eq_some_iff.1 hk).1))
  have HB7 : Hid (Below w.heap.size w w7) := Lib.hid (H1.out.trans ((HB6.out.trans (hb7.mono (by omega))).mono (by omega)))
  have HQ6 := Lib.hid hq6
  have HQR := Lib.hid hqr
  obtain ⟨x0, x1, x2, xf0, xf1, xf2⟩ := row3 hq6
  obtain ⟨y0, y1, y2, yf0, yf1, yf2⟩ := row3 hqr
  clear hce hb7 hq6 hqr
  rcases HCE.out with ⟨hf, t, ts', hts, hk0⟩ | ⟨hsc, hkn⟩
  · have hfc : fc = 0 := congrArg Prod.fst hf
    have hfo : fo = 0 := congrArg Prod.snd hf
    obtain ⟨m, hm⟩ : ∃ m, m = ts'.length := ⟨_, rfl⟩
    have hlen : ts.length = m + 1 := by rw [hts, List.length_append, hm]; rfl
    obtain ⟨g, rfl⟩ : ∃ g, va = some ⟨g, 0, none⟩ := by
      obtain ⟨g, cap, h5⟩ := Joins.ownsRow_form HO7.out (by omega)
      injection h5 with h6 _ _
      exact ⟨g, h6⟩
    have hmt : m < ts.length := by omega
    have htm : ts[m].kind = 0 := by
      have : ts[m]'hmt = t := by
        simp only [hts, hm]
        simp
      rw [this]; exact hk0
    have z0 := (tok_cells HO7.out hmt).1
    rw [htm] at z0
    have z0' : w7.cell? ⟨g, m * 6, none⟩ = some (.int .i64 0) := z0
    have m0 : (0 : Int) ≤ (m : Int) := by omega
    have m1 : (m : Int) < (ts.length : Int) := by omega
    have hwl : IntKind.i64.wrap ((ts.length : Int) - 1) = (m : Int) := by rw [IntKind.wrap_i64]; omega
    have hln : decide ((ts.length : Int) > 0) = true := decide_eq_true (by omega)
    have hln2 : (0 : Int) < (ts.length : Int) := by omega
    have hln3 : 0 < ts.length := by omega
    have HH := Lib.hid (three_set (x := .int .i64 (fc : Int)) (y := .int .i64 0) (z := .int .i64 (fo : Int)) HQR.out)
    have HH2 : Hid ((((w7.setCell ⟨w.heap.size, 0, none⟩ (.int .i64 (fc : Int))).setCell ⟨w.heap.size, 1, none⟩ (.int .i64 0)).setCell ⟨w.heap.size, 2, none⟩ (.int .i64 (fo : Int))).drew.heap[w.heap.size]? = some (.cells #[.int .i64 (fc : Int), .int .i64 0, .int .i64 (fo : Int)] 27)) := Lib.hid (by rw [drew_heap]; exact HH.out)
    have HOF := Lib.hid (own_oth (w' := (((w7.setCell ⟨w.heap.size, 0, none⟩ (.int .i64 (fc : Int))).setCell ⟨w.heap.size, 1, none⟩ (.int .i64 0)).setCell ⟨w.heap.size, 2, none⟩ (.int .i64 (fo : Int)))) (World.ownsRow.mono HO7.out (by omega : w.heap.size ≤ w1.heap.size)) (fun k c hc => by
      have hk : k ≠ w.heap.size := fun e => by rw [e, HQR.out] at hc; simp at hc
      rw [Below.heap_setCell _ _ _ _ hk, Below.heap_setCell _ _ _ _ hk, Below.heap_setCell _ _ _ _ hk]))
    have HBF : Hid (Below w.heap.size w (((w7.setCell ⟨w.heap.size, 0, none⟩ (.int .i64 (fc : Int))).setCell ⟨w.heap.size, 1, none⟩ (.int .i64 0)).setCell ⟨w.heap.size, 2, none⟩ (.int .i64 (fo : Int))).drew) := Lib.hid (((HB7.out.setCell (Nat.le_refl _) _).setCell (Nat.le_refl _) _).setCell (Nat.le_refl _) _).drew
    have e1 : ((fc : Int) == 0) = true := by simp; omega
    have e2 : ((fo : Int) == 0) = true := by simp; omega
    clear hts hk0 htm z0 hm hlen hf HCE hfc hfo
    go_upto_region 8 with fail
    go_region
    all_goals
      go_wp2
      refine bodyPost_ret (results_three rfl _ _ (.slice (some ⟨g, 0, none⟩) ts.length vc) (.bool true) w.heap.size 27 _ (0, 0) _ rfl rfl rfl HH2.out Tryz.underlying27 rfl Tryz.size25) rfl ?_
      exact ⟨_, rfl, HOF.out.drew, HBF.out⟩
  · obtain ⟨hst, hfc0⟩ := sc_stuck hsc
    have hfc0 : fc ≠ 0 := hfc0
    by_cases hts : ts = []
    · have hlen : ts.length = 0 := by rw [hts]; rfl
      have hln : decide ((ts.length : Int) > 0) = false := decide_eq_false (by omega)
      have hln2 : ¬ (0 : Int) < (ts.length : Int) := by omega
      have hln3 : ¬ 0 < ts.length := by omega
      have hne5 : w5.heap.size ≠ w.heap.size := by omega
      clear hlen hts
      have HT := Lib.hid hst
      have ec : ((fc : Int) == 0) = false := by simp; omega
      clear hst hfc0 HCE
      go_upto_region 9 with fail
      go_region_held3 (fun w' => w'.cell? ⟨w5.heap.size, 0, none⟩ = some (.int .i64 (fc : Int)) ∧ w'.cell? ⟨w5.heap.size, 1, none⟩ = some (.int .i64 0) ∧ w'.cell? ⟨w5.heap.size, 2, none⟩ = some (.int .i64 (fo : Int)))
        (first | exact ⟨x0, x1, x2⟩ | exact ⟨n0, n1, n2⟩ | exact ⟨cell_three n0 hne5, cell_three n1 hne5, cell_three n2 hne5⟩)
        (first
          | (go_at_call 23; refine (stuck_is s p fc fo _ hp hs HT.out).mono ?_; rintro e w8 ⟨rfl, hb8⟩; have hq8 : w8.heap[w5.heap.size]? = some (.cells #[.int .i64 (fc : Int), .int .i64 0, .int .i64 (fo : Int)] 27) := (by rw [hb8.block _ (show w5.heap.size < w7.drew.heap.size by rw [drew_heap]; omega)]; exact HQ6.out); have hq9 : w8.heap[w.heap.size]? = some (.cells #[.int .i64 0, .int .i64 0, .int .i64 0] 27) := (by rw [hb8.block _ (show w.heap.size < w7.drew.heap.size by rw [drew_heap]; omega)]; exact HQR.out); have hn8 := row3 hq8; have hn9 := row3 hq9; have n0 := hn8.1; have n1 := hn8.2.1; have n2 := hn8.2.2.1; have r0 := hn9.1; have r1 := hn9.2.1; have r2 := hn9.2.2.1; have rf0 := hn9.2.2.2.1; have rf1 := hn9.2.2.2.2.1; have rf2 := hn9.2.2.2.2.2; have HQ9 := Lib.hid hq9; have HB8 := Lib.hid hb8; clear hb8 hq8 hq9 hn8 hn9))
      have HH := Lib.hid (three_set (x := .int .i64 (fc : Int)) (y := .int .i64 0) (z := .int .i64 (fo : Int)) HQ9.out)
      have HO8 : Hid (w8.ownsRow w1.heap.size 62 6 (.slice va ts.length vc) ts.length (flatT ts)) := Lib.hid (own_oth HO7.out (fun k c hk => HB8.out.block k (Array.getElem?_eq_some_iff.1 hk).1))
      have HOF := Lib.hid (own_oth (w' := (((w8.setCell ⟨w.heap.size, 0, none⟩ (.int .i64 (fc : Int))).setCell ⟨w.heap.size, 1, none⟩ (.int .i64 0)).setCell ⟨w.heap.size, 2, none⟩ (.int .i64 (fo : Int)))) (World.ownsRow.mono HO8.out (by omega : w.heap.size ≤ w1.heap.size)) (fun k c hc => by
        have hk : k ≠ w.heap.size := fun e => by rw [e, HQ9.out] at hc; simp at hc
        rw [Below.heap_setCell _ _ _ _ hk, Below.heap_setCell _ _ _ _ hk, Below.heap_setCell _ _ _ _ hk]))
      have HBF : Hid (Below w.heap.size w (((w8.setCell ⟨w.heap.size, 0, none⟩ (.int .i64 (fc : Int))).setCell ⟨w.heap.size, 1, none⟩ (.int .i64 0)).setCell ⟨w.heap.size, 2, none⟩ (.int .i64 (fo : Int)))) := Lib.hid ((((HB7.out.drew.trans (HB8.out.mono (by rw [drew_heap]; omega))).setCell (Nat.le_refl _) _).setCell (Nat.le_refl _) _).setCell (Nat.le_refl _) _)
      go_wp2
      refine bodyPost_ret (results_three rfl _ _ (.slice va ts.length vc) (.bool true) w.heap.size 27 _ (0, 0) _ rfl rfl rfl HH.out Tryz.underlying27 rfl Tryz.size25) rfl ?_
      exact ⟨_, rfl, HOF.out, HBF.out⟩
    · obtain ⟨m, hm⟩ : ∃ m, ts.length = m + 1 := by
        cases ts with
        | nil => exact absurd rfl hts
        | cons t ts' => exact ⟨ts'.length, rfl⟩
      obtain ⟨g, rfl⟩ : ∃ g, va = some ⟨g, 0, none⟩ := by
        obtain ⟨g, cap, h5⟩ := Joins.ownsRow_form HO7.out (by omega)
        injection h5 with h6 _ _
        exact ⟨g, h6⟩
      have hmt : m < ts.length := by omega
      have htm : ts[m].kind ≠ 0 := hkn _ (List.getElem_mem hmt)
      obtain ⟨km, hkm⟩ : ∃ km, km = ts[m].kind := ⟨_, rfl⟩
      have z0 := (tok_cells HO7.out hmt).1
      rw [← hkm] at z0 htm
      have z0' : w7.cell? ⟨g, m * 6, none⟩ = some (.int .i64 (km : Int)) := z0
      have ek : ((km : Int) == 0) = false := by simp; omega
      have m0 : (0 : Int) ≤ (m : Int) := by omega
      have m1 : (m : Int) < (ts.length : Int) := by omega
      have hwl : IntKind.i64.wrap ((ts.length : Int) - 1) = (m : Int) := by rw [IntKind.wrap_i64]; omega
      have hln : decide ((ts.length : Int) > 0) = true := decide_eq_true (by omega)
      have hln2 : (0 : Int) < (ts.length : Int) := by omega
      have hln3 : 0 < ts.length := by omega
      have hne5 : w5.heap.size ≠ w.heap.size := by omega
      clear hts htm hkm z0 hm
      have HT := Lib.hid hst
      have ec : ((fc : Int) == 0) = false := by simp; omega
      clear hst hfc0 HCE
      go_upto_region 9 with fail
      go_region_held3 (fun w' => w'.cell? ⟨w5.heap.size, 0, none⟩ = some (.int .i64 (fc : Int)) ∧ w'.cell? ⟨w5.heap.size, 1, none⟩ = some (.int .i64 0) ∧ w'.cell? ⟨w5.heap.size, 2, none⟩ = some (.int .i64 (fo : Int)))
        (first | exact ⟨x0, x1, x2⟩ | exact ⟨n0, n1, n2⟩ | exact ⟨cell_three n0 hne5, cell_three n1 hne5, cell_three n2 hne5⟩)
        (first
          | (go_at_call 23; refine (stuck_is s p fc fo _ hp hs HT.out).mono ?_; rintro e w8 ⟨rfl, hb8⟩; have hq8 : w8.heap[w5.heap.size]? = some (.cells #[.int .i64 (fc : Int), .int .i64 0, .int .i64 (fo : Int)] 27) := (by rw [hb8.block _ (show w5.heap.size < w7.drew.heap.size by rw [drew_heap]; omega)]; exact HQ6.out); have hq9 : w8.heap[w.heap.size]? = some (.cells #[.int .i64 0, .int .i64 0, .int .i64 0] 27) := (by rw [hb8.block _ (show w.heap.size < w7.drew.heap.size by rw [drew_heap]; omega)]; exact HQR.out); have hn8 := row3 hq8; have hn9 := row3 hq9; have n0 := hn8.1; have n1 := hn8.2.1; have n2 := hn8.2.2.1; have r0 := hn9.1; have r1 := hn9.2.1; have r2 := hn9.2.2.1; have rf0 := hn9.2.2.2.1; have rf1 := hn9.2.2.2.2.1; have rf2 := hn9.2.2.2.2.2; have HQ9 := Lib.hid hq9; have HB8 := Lib.hid hb8; clear hb8 hq8 hq9 hn8 hn9))
      have HH := Lib.hid (three_set (x := .int .i64 (fc : Int)) (y := .int .i64 0) (z := .int .i64 (fo : Int)) HQ9.out)
      have HO8 : Hid (w8.ownsRow w1.heap.size 62 6 (.slice (some ⟨g, 0, none⟩) ts.length vc) ts.length (flatT ts)) := Lib.hid (own_oth HO7.out (fun k c hk => HB8.out.block k (Array.getElem?_eq_some_iff.1 hk).1))
      have HOF := Lib.hid (own_oth (w' := (((w8.setCell ⟨w.heap.size, 0, none⟩ (.int .i64 (fc : Int))).setCell ⟨w.heap.size, 1, none⟩ (.int .i64 0)).setCell ⟨w.heap.size, 2, none⟩ (.int .i64 (fo : Int)))) (World.ownsRow.mono HO8.out (by omega : w.heap.size ≤ w1.heap.size)) (fun k c hc => by
        have hk : k ≠ w.heap.size := fun e => by rw [e, HQ9.out] at hc; simp at hc
        rw [Below.heap_setCell _ _ _ _ hk, Below.heap_setCell _ _ _ _ hk, Below.heap_setCell _ _ _ _ hk]))
      have HBF : Hid (Below w.heap.size w (((w8.setCell ⟨w.heap.size, 0, none⟩ (.int .i64 (fc : Int))).setCell ⟨w.heap.size, 1, none⟩ (.int .i64 0)).setCell ⟨w.heap.size, 2, none⟩ (.int .i64 (fo : Int)))) := Lib.hid ((((HB7.out.drew.trans (HB8.out.mono (by rw [drew_heap]; omega))).setCell (Nat.le_refl _) _).setCell (Nat.le_refl _) _).setCell (Nat.le_refl _) _)
      go_wp2
      refine bodyPost_ret (results_three rfl _ _ (.slice (some ⟨g, 0, none⟩) ts.length vc) (.bool true) w.heap.size 27 _ (0, 0) _ rfl rfl rfl HH.out Tryz.underlying27 rfl Tryz.size25) rfl ?_
      exact ⟨_, rfl, HOF.out, HBF.out⟩

set_option maxRecDepth 100000 in
set_option maxHeartbeats 3200000 in
theorem scanned_long (s : ByteArray) (w : World) (hs : ¬ s.size ≤ 65536) :
    Calls Tryz.prog 5 #[.string s] w fun e w' => e = .returned (.tuple #[.slice none 0 0, FaultV 1 0, .bool true]) ∧ Below w.heap.size w w' := by
  have hgt : decide ((s.size : Int) > 65536) = true := decide_eq_true (by omega)
  obtain ⟨w1, hw1⟩ : ∃ w1, w1 = w.alloc (.cells #[.int .i64 0, .int .i64 0, .int .i64 0] 27) := ⟨_, rfl⟩
  have h1 : Below w.heap.size w w1 := by rw [hw1]; exact up_alloc _ _
  have h1z : w1.heap.size = w.heap.size + 1 := by rw [hw1]; simp
  have hr1 : w1.heap[w.heap.size]? = some (.cells #[.int .i64 0, .int .i64 0, .int .i64 0] 27) := by rw [hw1]; exact heap_alloc_new _ _
  have H1 := Lib.hid h1
  have HR1 := Lib.hid hr1
  have HW1 := Lib.hid hw1
  clear h1 hr1 hw1
  go_enter Tryz.func5, Tryz.ntmps5
  go_upto_region 1 with fail
  rw [← HW1.out]
  go_wp2_with fail
  refine (scan_long s _ hs).mono ?_
  rintro e w5 ⟨he, hb⟩
  have he2 : e = .returned (.tuple #[.slice none 0 0, .agg #[.int .i64 1, .int .i64 0, .int .i64 0]]) := he
  subst he2
  have h5z := hb.size
  have HB5 := Lib.hid hb
  clear he hb
  go_upto_region 3 with fail
  obtain ⟨w6, hw6⟩ : ∃ w6, w6 = w5.alloc (.cells #[.int .i64 1, .int .i64 0, .int .i64 0] 27) := ⟨_, rfl⟩
  rw [← hw6]
  have q6 : w6.heap[w5.heap.size]? = some (.cells #[.int .i64 1, .int .i64 0, .int .i64 0] 27) := by rw [hw6]; exact heap_alloc_new _ _
  have qr : w6.heap[w.heap.size]? = some (.cells #[.int .i64 0, .int .i64 0, .int .i64 0] 27) := by
    rw [hw6, Below.heap_alloc _ _ _ (by omega), HB5.out.block _ (by omega)]; exact HR1.out
  have B6 : Below w.heap.size w w6 := by rw [hw6]; exact (H1.out.trans (HB5.out.mono (by omega))).alloc (by omega) _
  obtain ⟨x0, x1, x2, xf0, xf1, xf2⟩ := row3 q6
  obtain ⟨y0, y1, y2, yf0, yf1, yf2⟩ := row3 qr
  have HH2 : Hid ((((w6.setCell ⟨w.heap.size, 0, none⟩ (.int .i64 1)).setCell ⟨w.heap.size, 1, none⟩ (.int .i64 0)).setCell ⟨w.heap.size, 2, none⟩ (.int .i64 0)).drew.heap[w.heap.size]? = some (.cells #[.int .i64 1, .int .i64 0, .int .i64 0] 27)) := Lib.hid (by rw [drew_heap]; exact three_set qr)
  have HBF : Hid (Below w.heap.size w (((w6.setCell ⟨w.heap.size, 0, none⟩ (.int .i64 1)).setCell ⟨w.heap.size, 1, none⟩ (.int .i64 0)).setCell ⟨w.heap.size, 2, none⟩ (.int .i64 0)).drew) := Lib.hid (((B6.setCell (Nat.le_refl _) _).setCell (Nat.le_refl _) _).setCell (Nat.le_refl _) _).drew
  clear q6 qr B6 hw6
  go_region
  all_goals
    go_wp2
    refine bodyPost_ret (results_three rfl _ _ (.slice none 0 0) (.bool true) w.heap.size 27 _ (0, 0) _ rfl rfl rfl HH2.out Tryz.underlying27 rfl Tryz.size25) rfl ?_
    exact ⟨rfl, HBF.out⟩
end Go.Proofs.YtncdjkdpoinfaaaGreatDoor
/-
  What the law's two loops want of the tokens: in plain Lean. Conditions: those that each theorem states.
-/
namespace Go.Proofs.YtncdjkdpoinfaaaGreatDoor
open Go.RowKit Go.Shelf Pl

def fixedS : ByteArray := ⟨#[112, 40, 88, 41, 32, 58, 45, 32, 110, 111, 116, 32, 113, 44, 32, 34, 97, 92, 120, 48, 48, 34, 32, 60, 61, 32, 45, 48, 49, 46, 32, 37, 32, 114, 10, 63]⟩
theorem fixed_scan : (scan 40 36 (L fixedS)).1.length = 12 ∧ (scan 40 36 (L fixedS)).2 = (10, 35) := by decide +kernel
theorem fixed_sc : ∃ ts, ts.length = 12 ∧ Sc (L fixedS) 0 ts (10, 35) := by
  refine ⟨(scan 40 36 (L fixedS)).1, fixed_scan.1, ?_⟩
  have h := scan_Sc (L fixedS) 40 0 (by decide +kernel) (by decide +kernel)
  rw [List.drop_zero, show (L fixedS).length = 36 by decide +kernel, fixed_scan.2] at h
  exact h

theorem sc_chain {s : ByteArray} {f : Nat × Nat} : ∀ {ts : List Tk} {p : Nat}, Sc (L s) p ts f → ∀ (i : Nat) (hi : i + 1 < ts.length), ∃ q, Sc (L s) q (ts.drop i) f ∧ Sc (L s) (ts[i]'(by omega)).fin (ts.drop (i + 1)) f
  | [], _, _, i, hi => by simp at hi
  | [_], _, _, i, hi => by simp at hi
  | t :: t2 :: ts, p, h, i, hi => by
    obtain ⟨r, h1, h2, h3⟩ := tok_facts h
    rcases h3 with ⟨_, h4, _⟩ | ⟨_, _, _, _, _, h4⟩
    · cases h4
    · cases i with
      | zero => exact ⟨p, h, h4⟩
      | succ i =>
        obtain ⟨q, g1, g2⟩ := sc_chain h4 i (by simpa using hi)
        exact ⟨q, g1, g2⟩
/-- Between two tokens lies a gap and nothing else. -/
theorem blank_at {s : ByteArray} {ts : List Tk} {f : Nat × Nat} (h : Sc (L s) 0 ts f) {i : Nat} (hi : i + 1 < ts.length) :
    (ts[i]'(by omega)).fin ≤ ts[i + 1].off ∧ ts[i + 1].off ≤ s.size ∧ gap .out (L (s.extract (ts[i]'(by omega)).fin ts[i + 1].off)) = .inl [] := by
  obtain ⟨q, g1, g2⟩ := sc_chain h i hi
  rw [List.drop_eq_getElem_cons hi] at g2
  obtain ⟨r, h1, h2, _⟩ := tok_facts g2
  have hg := gap_place h1
  rw [L_len] at hg
  obtain ⟨_, u, hu, hgu⟩ := gap_split _ .out _ _ (Nat.le_refl _) h1
  have hfin : (ts[i]'(by omega)).fin ≤ s.size := by
    rw [List.drop_eq_getElem_cons (show i < ts.length by omega)] at g1
    obtain ⟨r', _, _, h3⟩ := tok_facts g1
    rcases h3 with ⟨_, h4, _⟩ | ⟨_, _, h5, _, _, _⟩
    · have := congrArg List.length h4
      rw [List.length_drop, List.length_nil] at this; omega
    · exact h5
  have hl := congrArg List.length hu
  rw [List.length_drop, L_len, List.length_append] at hl
  refine ⟨by omega, by omega, ?_⟩
  rw [cut_drop, hu, show ts[i + 1].off - (ts[i]'(by omega)).fin = u.length by omega, List.take_left]
  exact hgu
/-- A token alone is that token. -/
theorem alone_at {s : ByteArray} {ts : List Tk} {f : Nat × Nat} (h : Sc (L s) 0 ts f) {i : Nat} (hi : i + 1 < ts.length) :
    (ts[i]'(by omega)).off ≤ (ts[i]'(by omega)).fin ∧ (ts[i]'(by omega)).fin ≤ s.size ∧ ∃ e, Sc (L (s.extract (ts[i]'(by omega)).off (ts[i]'(by omega)).fin)) 0 [⟨(ts[i]'(by omega)).kind, (ts[i]'(by omega)).text, (ts[i]'(by omega)).int, (ts[i]'(by omega)).op, 0, e⟩, ⟨0, [], 0, 0, e, e⟩] (0, 0) := by
  obtain ⟨q, g1, g2⟩ := sc_chain h i hi
  rw [List.drop_eq_getElem_cons (show i < ts.length by omega)] at g1
  obtain ⟨r, h1, h2, h3⟩ := tok_facts g1
  rcases h3 with ⟨_, h4, _⟩ | ⟨_, h5, h6, h7, _, _⟩
  · have := congrArg List.length h4
    rw [List.length_drop, List.length_nil] at this; omega
  · refine ⟨by omega, h6, (L (s.extract (ts[i]'(by omega)).off (ts[i]'(by omega)).fin)).length, ?_⟩
    obtain ⟨k1, k2⟩ := tok_self h7
    generalize L (s.extract (ts[i]'(by omega)).off (ts[i]'(by omega)).fin) = l at k1 k2 ⊢
    have hs := Sc.tok (l := l) 0 l [] _ _ _ _ [⟨0, [], 0, 0, l.length, l.length⟩] (0, 0) (by rw [List.drop_zero]; exact k1) k2 (Sc.fin _ (by simp [gap_end]))
    simpa using hs
end Go.Proofs.YtncdjkdpoinfaaaGreatDoor
/-
  From what a row lists of the program's variables to what the walks ask of them. Condition: the listed variables hold what the program's text lays.
-/
namespace Go.Proofs.YtncdjkdpoinfaaaGreatDoor
open Go.RowKit Go.Shelf Go.Deep Pl

theorem of_list {s : ByteArray} {l : List UInt8} (h : s.data.toList = l) : s = ⟨l.toArray⟩ := of_L h
/-- An array of strings that stands first on the list. -/
theorem strs_of_head {P : Program} {W : World} {name : String} {bs : List (List UInt8)} {rest : List (String × DataW Unit)} {g : Nat} {t e : TypeId} {n : Nat}
    (hg : P.globalNamed name = some g) (hty : (P.globals[g]?).map (·.type) = some t) (ht : P.underlying t = some (.array n e)) (he : P.underlying e = some .string) (hce : P.cellsOf e = 1)
    (h : laidMet P ((name, .agg (bs.map fun b => .lit (.string b))) :: rest) W) : ∀ i (hi : i < bs.length), W.cell? ⟨g, i, none⟩ = some (.string ⟨bs[i].toArray⟩) := by
  obtain ⟨ps, ⟨g', t', cs, fuel, p, q, hg', ht', hvar, hd, _, _⟩, _⟩ := h
  obtain rfl := Option.some.inj (hg.symm.trans hg')
  obtain rfl := Option.some.inj (hty.symm.trans ht')
  intro i hi
  obtain ⟨xs, m, _, hx, _, hn, hel⟩ := DataW.trod_array ht hd
  have hxs : xs.map (·.1) = bs.map fun b => (DataW.lit (.string b) : DataW Unit) := by
    have := congrArg Prod.fst hx
    simp only [DataW.agg.injEq] at this
    exact this.symm
  have hlen : xs.length = bs.length := by simpa using congrArg List.length hxs
  have h1 := hel i (by omega)
  rw [hce, Nat.mul_one, List.getElem?_eq_getElem (by omega)] at h1
  obtain ⟨s, hs, hx1, _⟩ := DataW.trod_string he h1
  have h2 : (xs.map (·.1))[i]? = some (DataW.lit (.string s.data.toList) : DataW Unit) := by
    rw [List.getElem?_map, List.getElem?_eq_getElem (by omega), hx1]; rfl
  rw [hxs, List.getElem?_map, List.getElem?_eq_getElem hi] at h2
  simp only [Option.map_some, Option.some.injEq, DataW.lit.injEq, Lit.string.injEq] at h2
  have h3 : cs.toList[i]? = some (.string s) := by
    have := congrArg (·[0]?) hs
    simpa [List.getElem?_take, List.getElem?_drop] using this
  rw [World.var?_cell hg hvar i, ← Array.getElem?_toList, h3, of_list h2.symm]

theorem cells_three {W : World} {base : Nat} {a : Addr} {cs : List Value} (h : W.cells? base a 3 = some cs) : ∃ x y z, cs = [x, y, z] ∧ W.cell? (a.add 0) = some x ∧ W.cell? (a.add 1) = some y ∧ W.cell? (a.add 2) = some z := by
  unfold World.cells? at h
  split at h
  · have hl := Lib.mapM_length h
    simp at hl
    match cs, hl with
    | [x, y, z], _ =>
      obtain ⟨b0, h0, k0⟩ := Lib.mapM_at h 0 0 rfl
      obtain ⟨b1, h1, k1⟩ := Lib.mapM_at h 1 1 rfl
      obtain ⟨b2, h2, k2⟩ := Lib.mapM_at h 2 2 rfl
      simp at h0 h1 h2
      subst h0 h1 h2
      exact ⟨_, _, _, rfl, k0, k1, k2⟩
  · cases h
theorem signs_of_head {P : Program} {W : World} {name : String} {L3 : List (List UInt8 × Int × Int)} {rest : List (String × DataW Unit)} {g : Nat} {t e ts ti ti2 : TypeId} {f0 f1 f2 : Field}
    (hg : P.globalNamed name = some g) (hty : (P.globals[g]?).map (·.type) = some t) (ht : P.underlying t = some (.slice e)) (he : P.underlying e = some (.struct #[f0, f1, f2])) (hce : P.cellsOf e = 3)
    (t0 : f0.type = ts) (t1 : f1.type = ti) (t2 : f2.type = ti2) (o0 : f0.offset = 0) (o1 : f1.offset = 1) (o2 : f2.offset = 2) (hs : P.underlying ts = some .string) (hi1 : P.underlying ti = some (.int .i64)) (hi2 : P.underlying ti2 = some (.int .i64))
    (c0 : P.cellsOf ts = 1) (c1 : P.cellsOf ti = 1) (c2 : P.cellsOf ti2 = 1) (hne : 0 < L3.length)
    (h : laidMet P ((name, .slice (L3.map fun x => .agg [.lit (.string x.1), .lit (.int .i64 x.2.1), .lit (.int .i64 x.2.2)]) []) :: rest) W) :
    ∃ b off cap, W.cell? ⟨g, 0, none⟩ = some (.slice (some ⟨b, off, none⟩) L3.length cap) ∧ b < W.heap.size ∧ ∀ i (hi : i < L3.length),
      W.cell? ⟨b, off + i * 3, none⟩ = some (.string ⟨L3[i].1.toArray⟩) ∧ W.cell? ⟨b, off + i * 3 + 1, none⟩ = some (.int .i64 L3[i].2.1) ∧ W.cell? ⟨b, off + i * 3 + 2, none⟩ = some (.int .i64 L3[i].2.2) := by
  obtain ⟨ps, ⟨g', t', cs, fuel, p, q, hg', ht', hvar, hd, _, _⟩, _⟩ := h
  obtain rfl := Option.some.inj (hg.symm.trans hg')
  obtain rfl := Option.some.inj (hty.symm.trans ht')
  subst t0 t1 t2
  rcases open_slice ht hd with ⟨_, hx⟩ | ⟨a, len, cap, m, n, D, Pl, hcs, _, hle, _, hm, hx, hel⟩
  · cases hx
  have hx1 := congrArg Prod.fst hx
  simp only [DataW.slice.injEq] at hx1
  obtain ⟨hx1, _⟩ := hx1
  have hlen : L3.length = len := by simpa using congrArg List.length hx1
  subst hlen
  have hmm : L3.length ≤ m := by rw [hm]; split <;> omega
  have each : ∀ i (hi : i < L3.length), W.cell? ((a.add (i * 3)).add 0) = some (.string ⟨L3[i].1.toArray⟩) ∧ W.cell? ((a.add (i * 3)).add 1) = some (.int .i64 L3[i].2.1) ∧ W.cell? ((a.add (i * 3)).add 2) = some (.int .i64 L3[i].2.2) := by
    intro i hi
    obtain ⟨cs', h1, h2⟩ := hel i (by omega)
    rw [hce] at h1
    obtain ⟨x, y, z, rfl, k0, k1, k2⟩ := cells_three h1
    obtain ⟨y0, y1, y2, n', hxx, _, g0, g1, g2⟩ := trod_struct3 he h2
    rw [o0, c0] at g0
    rw [o1, c1] at g1
    rw [o2, c2] at g2
    obtain ⟨s, e1, e2, _⟩ := DataW.trod_string hs g0
    obtain ⟨v1, e3, e4, _⟩ := DataW.trod_int hi1 g1
    obtain ⟨v2, e5, e6, _⟩ := DataW.trod_int hi2 g2
    have hD := congrArg Prod.fst hxx
    simp only at hD
    have hLi : (L3.map fun x => (DataW.agg [.lit (.string x.1), .lit (.int .i64 x.2.1), .lit (.int .i64 x.2.2)] : DataW Unit))[i]? = some (D i) := by
      rw [hx1, List.getElem?_map, List.getElem?_range hi]; rfl
    rw [List.getElem?_map, List.getElem?_eq_getElem hi] at hLi
    simp only [Option.map_some, Option.some.injEq] at hLi
    rw [hD, e2, e4, e6] at hLi
    simp only [DataW.agg.injEq, List.cons.injEq, DataW.lit.injEq, Lit.string.injEq, Lit.int.injEq, and_true, true_and] at hLi
    simp at e1 e3 e5
    refine ⟨?_, ?_, ?_⟩
    · rw [k0, e1, of_list hLi.1.symm]
    · rw [k1, e3, hLi.2.1]
    · rw [k2, e5, hLi.2.2]
  have h0 := (each 0 hne).1
  obtain ⟨b, off, spot⟩ := a
  have hspot : spot = none := by simpa [Addr.add] using World.cell?_spot h0
  subst hspot
  have hc : W.cell? ⟨g, 0, none⟩ = some (.slice (some ⟨b, off, none⟩) L3.length cap) := by
    rw [World.var?_cell hg hvar 0, ← Array.getElem?_toList, hcs]; rfl
  refine ⟨b, off, cap, hc, ?_, fun i hi => ?_⟩
  · simp only [Go.WideShapes.add_plain] at h0
    exact World.block_lt_of_cell? _ _ h0
  · obtain ⟨k0, k1, k2⟩ := each i hi
    simp only [Go.WideShapes.add_plain] at k0 k1 k2
    exact ⟨k0, k1, k2⟩
end Go.Proofs.YtncdjkdpoinfaaaGreatDoor
/-
  The walks of TopGrammar's small functions over kinds: no condition.
-/
namespace Go.Proofs.YtncdjkdpoinfaaaGreatDoor
open Go.RowKit Go.Shelf Pl

def eitherV (k a sa b sb c sc : Int) : Int := if k = a then sa else if k = b then sb else if k = c then sc else -1
set_option maxRecDepth 100000 in
theorem either_any (k a sa b sb c sc : Int) (w : World) :
    Calls Tryz.prog 50 #[.int .i64 k, .int .i64 a, .int .i64 sa, .int .i64 b, .int .i64 sb, .int .i64 c, .int .i64 sc] w fun e w' => e = .returned (.int .i64 (eitherV k a sa b sb c sc)) ∧ w' = w := by
  obtain ⟨V, hV⟩ : ∃ V, V = eitherV k a sa b sb c sc := ⟨_, rfl⟩
  rw [← hV]
  by_cases h1 : k = a
  · have e1 : (k == a) = true := by simpa using h1
    have HR := Lib.hid (show V = sa by rw [hV, eitherV, if_pos h1])
    clear h1 hV
    go_enter Tryz.func50, Tryz.ntmps50
    go_wp2
    go_ret
    exact ⟨by rw [HR.out]; first | done | rfl, rfl⟩
  · have e1 : (k == a) = false := by simpa using h1
    by_cases h2 : k = b
    · have e2 : (k == b) = true := by simpa using h2
      have HR := Lib.hid (show V = sb by rw [hV, eitherV, if_neg h1, if_pos h2])
      clear h1 h2 hV
      go_enter Tryz.func50, Tryz.ntmps50
      go_wp2
      go_ret
      exact ⟨by rw [HR.out]; first | done | rfl, rfl⟩
    · have e2 : (k == b) = false := by simpa using h2
      by_cases h3 : k = c
      · have e3 : (k == c) = true := by simpa using h3
        have HR := Lib.hid (show V = sc by rw [hV, eitherV, if_neg h1, if_neg h2, if_pos h3])
        clear h1 h2 h3 hV
        go_enter Tryz.func50, Tryz.ntmps50
        go_wp2
        go_ret
        exact ⟨by rw [HR.out]; first | done | rfl, rfl⟩
      · have e3 : (k == c) = false := by simpa using h3
        have HR := Lib.hid (show V = -1 by rw [hV, eitherV, if_neg h1, if_neg h2, if_neg h3])
        clear h1 h2 h3 hV
        go_enter Tryz.func50, Tryz.ntmps50
        go_wp2
        go_ret
        exact ⟨by rw [HR.out]; first | done | rfl, rfl⟩
set_option maxRecDepth 100000 in
theorem isTerm_any (k : Nat) (vars : Bool) (w : World) :
    Calls Tryz.prog 46 #[.int .i64 (k : Int), .bool vars] w fun e w' => e = .returned (.bool (Gr.isT vars k)) ∧ w' = w := by
  obtain ⟨V, hV⟩ : ∃ V, V = Gr.isT vars k := ⟨_, rfl⟩
  rw [← hV]
  have key : ∀ b : Bool, Gr.isT vars k = b → Hid (V = b) := fun b h => Lib.hid (by rw [hV, h])
  by_cases h1 : k = 1
  · have HR := key true (by simp [Gr.isT, h1])
    subst h1
    clear hV key
    go_enter Tryz.func46, Tryz.ntmps46
    go_wp2
    go_ret
    exact ⟨by rw [HR.out]; first | done | rfl, rfl⟩
  · by_cases h3 : k = 3
    · have HR := key true (by simp [Gr.isT, h3])
      subst h3
      clear hV key h1
      go_enter Tryz.func46, Tryz.ntmps46
      go_wp2
      go_ret
      exact ⟨by rw [HR.out]; first | done | rfl, rfl⟩
    · by_cases h4 : k = 4
      · have HR := key true (by simp [Gr.isT, h4])
        subst h4
        clear hV key h1 h3
        go_enter Tryz.func46, Tryz.ntmps46
        go_wp2
        go_ret
        exact ⟨by rw [HR.out]; first | done | rfl, rfl⟩
      · by_cases h2 : k = 2
        · have HR := key vars (by simp [Gr.isT, h2])
          subst h2
          clear hV key h1 h3 h4
          go_enter Tryz.func46, Tryz.ntmps46
          go_wp2
          go_ret
          exact ⟨by rw [HR.out]; first | done | rfl, rfl⟩
        · have HR := key false (by simp [Gr.isT, h1, h2, h3, h4])
          have e1 : ((k : Int) == 1) = false := by simp; omega
          have e2 : ((k : Int) == 2) = false := by simp; omega
          have e3 : ((k : Int) == 3) = false := by simp; omega
          have e4 : ((k : Int) == 4) = false := by simp; omega
          clear hV key h1 h2 h3 h4
          go_enter Tryz.func46, Tryz.ntmps46
          go_wp2
          go_ret
          exact ⟨by rw [HR.out]; first | done | rfl, rfl⟩
set_option maxRecDepth 100000 in
theorem termKind_any (k : Nat) (ground : Bool) (w : World) :
    Calls Tryz.prog 51 #[.int .i64 (k : Int), .bool ground] w fun e w' => e = .returned (.bool (Gr.isT (!ground) k)) ∧ w' = w := by
  obtain ⟨V, hV⟩ : ∃ V, V = Gr.isT (!ground) k := ⟨_, rfl⟩
  rw [← hV]
  have key : ∀ b : Bool, Gr.isT (!ground) k = b → Hid (V = b) := fun b h => Lib.hid (by rw [hV, h])
  by_cases h1 : k = 1
  · have HR := key true (by simp [Gr.isT, h1])
    subst h1
    clear hV key
    go_enter Tryz.func51, Tryz.ntmps51
    go_wp2
    go_ret
    exact ⟨by rw [HR.out]; first | done | rfl, rfl⟩
  · by_cases h3 : k = 3
    · have HR := key true (by simp [Gr.isT, h3])
      subst h3
      clear hV key h1
      go_enter Tryz.func51, Tryz.ntmps51
      go_wp2
      go_ret
      exact ⟨by rw [HR.out]; first | done | rfl, rfl⟩
    · by_cases h4 : k = 4
      · have HR := key true (by simp [Gr.isT, h4])
        subst h4
        clear hV key h1 h3
        go_enter Tryz.func51, Tryz.ntmps51
        go_wp2
        go_ret
        exact ⟨by rw [HR.out]; first | done | rfl, rfl⟩
      · by_cases h2 : k = 2
        · have HR := key (!ground) (by simp [Gr.isT, h2])
          subst h2
          clear hV key h1 h3 h4
          cases ground <;>
          · go_enter Tryz.func51, Tryz.ntmps51
            go_wp2
            go_ret
            exact ⟨by rw [HR.out]; first | done | rfl, rfl⟩
        · have HR := key false (by simp [Gr.isT, h1, h2, h3, h4])
          have e1 : ((k : Int) == 1) = false := by simp; omega
          have e2 : ((k : Int) == 2) = false := by simp; omega
          have e3 : ((k : Int) == 3) = false := by simp; omega
          have e4 : ((k : Int) == 4) = false := by simp; omega
          clear hV key h1 h2 h3 h4
          go_enter Tryz.func51, Tryz.ntmps51
          go_wp2
          go_ret
          exact ⟨by rw [HR.out]; first | done | rfl, rfl⟩
end Go.Proofs.YtncdjkdpoinfaaaGreatDoor
/-
  The walk of the automaton's states of facts texts. No condition.
-/
namespace Go.Proofs.YtncdjkdpoinfaaaGreatDoor
open Go.RowKit Go.Shelf Pl

def stV : Option Nat → Int | some n => (n : Int) | none => -1
/-- The states behind 14. -/
def groundV (st k : Nat) : Int := if st < 15 then -1 else stV (Gr.step st k false)
theorem ground_20 (k : Nat) : groundV 20 k = eitherV (k : Int) 0 99 (-2) 0 (-2) 0 := by
  simp only [groundV, Gr.step, eitherV]
  repeat' split
  all_goals first | rfl | omega | (exfalso; omega) | (simp [stV]; done)
theorem ground_30 (k : Nat) : groundV 30 k = eitherV (k : Int) 1 31 0 99 (-2) 0 := by
  simp only [groundV, Gr.step, eitherV]
  repeat' split
  all_goals first | rfl | omega | (exfalso; omega) | (simp [stV]; done)
theorem ground_31 (k : Nat) : groundV 31 k = eitherV (k : Int) 5 32 8 30 (-2) 0 := by
  simp only [groundV, Gr.step, eitherV]
  repeat' split
  all_goals first | rfl | omega | (exfalso; omega) | (simp [stV]; done)
theorem ground_32 (k : Nat) : groundV 32 k = if Gr.isT false k = true then 33 else -1 := by
  simp only [groundV, Gr.step]
  repeat' split
  all_goals first | rfl | omega | (simp [stV]; done)
theorem ground_42 (k : Nat) : groundV 42 k = if Gr.isT false k = true then 43 else -1 := by
  simp only [groundV, Gr.step]
  repeat' split
  all_goals first | rfl | omega | (simp [stV]; done)
theorem ground_33 (k : Nat) : groundV 33 k = eitherV (k : Int) 7 32 6 34 (-2) 0 := by
  simp only [groundV, Gr.step, eitherV]
  repeat' split
  all_goals first | rfl | omega | (exfalso; omega) | (simp [stV]; done)
theorem ground_34 (k : Nat) : groundV 34 k = eitherV (k : Int) 8 30 (-2) 0 (-2) 0 := by
  simp only [groundV, Gr.step, eitherV]
  repeat' split
  all_goals first | rfl | omega | (exfalso; omega) | (simp [stV]; done)
theorem ground_40 (k : Nat) : groundV 40 k = eitherV (k : Int) 1 41 (-2) 0 (-2) 0 := by
  simp only [groundV, Gr.step, eitherV]
  repeat' split
  all_goals first | rfl | omega | (exfalso; omega) | (simp [stV]; done)
theorem ground_41 (k : Nat) : groundV 41 k = eitherV (k : Int) 5 42 0 99 (-2) 0 := by
  simp only [groundV, Gr.step, eitherV]
  repeat' split
  all_goals first | rfl | omega | (exfalso; omega) | (simp [stV]; done)
theorem ground_43 (k : Nat) : groundV 43 k = eitherV (k : Int) 7 42 6 44 (-2) 0 := by
  simp only [groundV, Gr.step, eitherV]
  repeat' split
  all_goals first | rfl | omega | (exfalso; omega) | (simp [stV]; done)
theorem ground_44 (k : Nat) : groundV 44 k = eitherV (k : Int) 0 99 (-2) 0 (-2) 0 := by
  simp only [groundV, Gr.step, eitherV]
  repeat' split
  all_goals first | rfl | omega | (exfalso; omega) | (simp [stV]; done)
set_option maxRecDepth 100000 in
set_option maxHeartbeats 1600000 in
theorem stepGround_any (st k : Nat) (w : World) :
    Calls Tryz.prog 52 #[.int .i64 (st : Int), .int .i64 (k : Int)] w fun e w' => e = .returned (.int .i64 (groundV st k)) ∧ w' = w := by
  obtain ⟨V, hV⟩ : ∃ V, V = groundV st k := ⟨_, rfl⟩
  rw [← hV]
  by_cases h20 : st = 20
  · subst h20
    have HR := Lib.hid (hV.trans (ground_20 k))
    clear hV
    go_enter Tryz.func52, Tryz.ntmps52
    go_wp2_with fail
    refine (either_any (k : Int) 0 99 (-2) 0 (-2) 0 w).mono ?_
    rintro e w' ⟨rfl, rfl⟩
    rw [← HR.out]
    go_wp2
    go_ret
    exact ⟨rfl, rfl⟩
  by_cases h30 : st = 30
  · subst h30
    have HR := Lib.hid (hV.trans (ground_30 k))
    clear hV
    go_enter Tryz.func52, Tryz.ntmps52
    go_wp2_with fail
    refine (either_any (k : Int) 1 31 0 99 (-2) 0 w).mono ?_
    rintro e w' ⟨rfl, rfl⟩
    rw [← HR.out]
    go_wp2
    go_ret
    exact ⟨rfl, rfl⟩
  by_cases h31 : st = 31
  · subst h31
    have HR := Lib.hid (hV.trans (ground_31 k))
    clear hV
    go_enter Tryz.func52, Tryz.ntmps52
    go_wp2_with fail
    refine (either_any (k : Int) 5 32 8 30 (-2) 0 w).mono ?_
    rintro e w' ⟨rfl, rfl⟩
    rw [← HR.out]
    go_wp2
    go_ret
    exact ⟨rfl, rfl⟩
  by_cases h32 : st = 32
  · subst h32
    have HR := Lib.hid (hV.trans (ground_32 k))
    clear hV
    go_enter Tryz.func52, Tryz.ntmps52
    go_wp2_with fail
    refine (termKind_any k true w).mono ?_
    rintro e w' ⟨rfl, rfl⟩
    rw [show (!true) = false from rfl]
    cases hb : Gr.isT false k with
    | true =>
      have HV := Lib.hid (show V = 33 by rw [HR.out, if_pos hb])
      clear hb HR
      go_wp2
      go_ret
      exact ⟨by rw [HV.out]; first | done | rfl, rfl⟩
    | false =>
      have HV := Lib.hid (show V = -1 by rw [HR.out, if_neg (by rw [hb]; simp)])
      clear hb HR
      go_wp2
      go_ret
      exact ⟨by rw [HV.out]; first | done | rfl, rfl⟩
  by_cases h42 : st = 42
  · subst h42
    have HR := Lib.hid (hV.trans (ground_42 k))
    clear hV
    go_enter Tryz.func52, Tryz.ntmps52
    go_wp2_with fail
    refine (termKind_any k true w).mono ?_
    rintro e w' ⟨rfl, rfl⟩
    rw [show (!true) = false from rfl]
    cases hb : Gr.isT false k with
    | true =>
      have HV := Lib.hid (show V = 43 by rw [HR.out, if_pos hb])
      clear hb HR
      go_wp2
      go_ret
      exact ⟨by rw [HV.out]; first | done | rfl, rfl⟩
    | false =>
      have HV := Lib.hid (show V = -1 by rw [HR.out, if_neg (by rw [hb]; simp)])
      clear hb HR
      go_wp2
      go_ret
      exact ⟨by rw [HV.out]; first | done | rfl, rfl⟩
  by_cases h33 : st = 33
  · subst h33
    have HR := Lib.hid (hV.trans (ground_33 k))
    clear hV
    go_enter Tryz.func52, Tryz.ntmps52
    go_wp2_with fail
    refine (either_any (k : Int) 7 32 6 34 (-2) 0 w).mono ?_
    rintro e w' ⟨rfl, rfl⟩
    rw [← HR.out]
    go_wp2
    go_ret
    exact ⟨rfl, rfl⟩
  by_cases h34 : st = 34
  · subst h34
    have HR := Lib.hid (hV.trans (ground_34 k))
    clear hV
    go_enter Tryz.func52, Tryz.ntmps52
    go_wp2_with fail
    refine (either_any (k : Int) 8 30 (-2) 0 (-2) 0 w).mono ?_
    rintro e w' ⟨rfl, rfl⟩
    rw [← HR.out]
    go_wp2
    go_ret
    exact ⟨rfl, rfl⟩
  by_cases h40 : st = 40
  · subst h40
    have HR := Lib.hid (hV.trans (ground_40 k))
    clear hV
    go_enter Tryz.func52, Tryz.ntmps52
    go_wp2_with fail
    refine (either_any (k : Int) 1 41 (-2) 0 (-2) 0 w).mono ?_
    rintro e w' ⟨rfl, rfl⟩
    rw [← HR.out]
    go_wp2
    go_ret
    exact ⟨rfl, rfl⟩
  by_cases h41 : st = 41
  · subst h41
    have HR := Lib.hid (hV.trans (ground_41 k))
    clear hV
    go_enter Tryz.func52, Tryz.ntmps52
    go_wp2_with fail
    refine (either_any (k : Int) 5 42 0 99 (-2) 0 w).mono ?_
    rintro e w' ⟨rfl, rfl⟩
    rw [← HR.out]
    go_wp2
    go_ret
    exact ⟨rfl, rfl⟩
  by_cases h43 : st = 43
  · subst h43
    have HR := Lib.hid (hV.trans (ground_43 k))
    clear hV
    go_enter Tryz.func52, Tryz.ntmps52
    go_wp2_with fail
    refine (either_any (k : Int) 7 42 6 44 (-2) 0 w).mono ?_
    rintro e w' ⟨rfl, rfl⟩
    rw [← HR.out]
    go_wp2
    go_ret
    exact ⟨rfl, rfl⟩
  by_cases h44 : st = 44
  · subst h44
    have HR := Lib.hid (hV.trans (ground_44 k))
    clear hV
    go_enter Tryz.func52, Tryz.ntmps52
    go_wp2_with fail
    refine (either_any (k : Int) 0 99 (-2) 0 (-2) 0 w).mono ?_
    rintro e w' ⟨rfl, rfl⟩
    rw [← HR.out]
    go_wp2
    go_ret
    exact ⟨rfl, rfl⟩
  have HR := Lib.hid (show V = -1 by
    rw [hV]
    unfold groundV Gr.step
    split
    · rfl
    · split <;> first | omega | rfl)
  have e20 : ((st : Int) == 20) = false := by simp; omega
  have e30 : ((st : Int) == 30) = false := by simp; omega
  have e31 : ((st : Int) == 31) = false := by simp; omega
  have e32 : ((st : Int) == 32) = false := by simp; omega
  have e42 : ((st : Int) == 42) = false := by simp; omega
  have e33 : ((st : Int) == 33) = false := by simp; omega
  have e34 : ((st : Int) == 34) = false := by simp; omega
  have e40 : ((st : Int) == 40) = false := by simp; omega
  have e41 : ((st : Int) == 41) = false := by simp; omega
  have e43 : ((st : Int) == 43) = false := by simp; omega
  have e44 : ((st : Int) == 44) = false := by simp; omega
  clear hV h20 h30 h31 h32 h42 h33 h34 h40 h41 h43 h44
  go_enter Tryz.func52, Tryz.ntmps52
  go_wp2
  go_ret
  exact ⟨by rw [HR.out]; first | done | rfl, rfl⟩
end Go.Proofs.YtncdjkdpoinfaaaGreatDoor
