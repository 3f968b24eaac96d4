/-
  Texts of this seat, one behind the other: W51. Conditions: those that each of them states.
-/
import Derived.Test.YtncdjkdpoinfaaaGreatDoorG23
/-
  The walks of edicttop.programOf, factsOf, queryOf. Conditions: the text is at most 65536 bytes long; the variables hold what the program's text lays.
-/
namespace Go.Proofs.YtncdjkdpoinfaaaGreatDoor
open Go.RowKit Go.Shelf Pl

theorem results_ccs {P : Program} {fn : Func} {p u q : Tmp} {ty tz : TypeId} (h : fn.results = #[.cell p ty, .cell u tz, .tmp q]) (tmps : Array Value) (w : World) (v2 : Value) (g g2 : Nat) (t t2 : TypeId) (cs cs2 : Array Value) (fr fr2 : Nat × Nat) (d d2 : TypeDesc)
    (hp : tmps.getD p undef = .pointer (some ⟨g, 0, none⟩)) (hg : w.heap[g]? = some (.cells cs t fr))
    (hu : P.underlying ty = some d) (hd : (match d with | .struct _ | .array _ _ => true | _ => false) = true) (hi : (P.info? ty).map (·.size) = some cs.size)
    (hp2 : tmps.getD u undef = .pointer (some ⟨g2, 0, none⟩)) (hg2 : w.heap[g2]? = some (.cells cs2 t2 fr2))
    (hu2 : P.underlying tz = some d2) (hd2 : (match d2 with | .struct _ | .array _ _ => true | _ => false) = true) (hi2 : (P.info? tz).map (·.size) = some cs2.size) (hq : tmps.getD q undef = v2) :
    (results fn tmps).run P w = .ok (.tuple #[.agg cs, .agg cs2, v2]) w := by
  have hp' : tmps[p]?.getD undef = .pointer (some ⟨g, 0, none⟩) := by simpa using hp
  have hp2' : tmps[u]?.getD undef = .pointer (some ⟨g2, 0, none⟩) := by simpa using hp2
  have hq' : tmps[q]?.getD undef = v2 := by simpa using hq
  simp [results, h, hp', hp2', hq', asAddr, run_loadVar_row w g t ty cs fr d hg hu hd hi, run_loadVar_row w g2 t2 tz cs2 fr2 d2 hg2 hu2 hd2 hi2]
set_option maxRecDepth 100000 in
theorem fault_ne (c o : Int) (x : World) : (binOp BinOp.neq 27 (.agg #[.int .i64 c, .int .i64 0, .int .i64 o]) (.agg #[.int .i64 c, .int .i64 0, .int .i64 o])).run Tryz.prog x = .ok (.bool false) x := by
  simp [go_sem]
theorem OutV.ev {B : Nat} {es : List Gr.Ex} {w : World} {u : Value} (h : OutV B es w u) : w.ownsRow B 62 6 u (es.map Gr.ev).length ((es.map Gr.ev).flatMap evV) := by
  rw [List.length_map, List.flatMap_map]
  exact h
theorem own_ne {D n m : Nat} {v u : Value} {xs ys : List Value} {w7 w8 : World} (h : w7.ownsRow D 62 6 v n xs) (h' : w8.ownsRow w7.heap.size 62 6 u m ys) : v.ownBlock = none ∨ v.ownBlock ≠ u.ownBlock := by
  cases hv : v.ownBlock with
  | none => exact .inl rfl
  | some k =>
    right
    intro e
    have h1 := (World.ownsRow.lt h k hv).2
    have h2 := (World.ownsRow.lt h' k e.symm).1
    omega
theorem toks_stand {B n D m : Nat} {v u : Value} {xs ys : List Value} {w w5 : World} {o : Obj} (h : w.ownsRow D 62 6 v n xs) (h' : w.ownsRow B 62 6 u m ys) (hg : (w.alloc o).grownBy w5 u.ownBlock) (hne : v.ownBlock = none ∨ v.ownBlock ≠ u.ownBlock) : w5.ownsRow D 62 6 v n xs :=
  World.ownsRow.kept (World.ownsRow.alloc h o) hg hne

set_option maxRecDepth 100000 in
set_option maxHeartbeats 6400000 in
theorem programOf_any (s : ByteArray) (B : Nat) (ts : List Tk) (f : Gr.Flt) (w : World) (hs : s.size ≤ 65536) (hSc : Sc (L s) 0 ts f) (hG : Gl B w) (hts : ts.length ≤ 70000) :
    Calls Tryz.prog 9 #[.string s] w fun e w' => (∃ (a : Option Addr) (n c k o : Nat), e = .returned (.tuple #[.agg #[.slice a n c], FaultV k o, .bool true])) ∧ Below w.heap.size w w' := by
  obtain ⟨i62, bi, b0, b1, b2⟩ := info_parts Tryz.info62
  have HSH := Lib.hid (Gr.sc_shp hSc)
  have HSC := Lib.hid hSc
  obtain ⟨w1, hw1⟩ : ∃ w1, w1 = (w.alloc (.cells #[.slice none 0 0] 24)).alloc (.cells #[.int .i64 0, .int .i64 0, .int .i64 0] 27) := ⟨_, rfl⟩
  have HB1 : Hid (Below w.heap.size w w1) := Lib.hid (by rw [hw1]; exact (up_alloc _ _).alloc (by simp) _)
  have HF1 : Hid (w1.heap[w.heap.size + 1]? = some (.cells #[.int .i64 0, .int .i64 0, .int .i64 0] 27)) := Lib.hid (by rw [hw1]; exact (two_heap _ _ rfl).2)
  have HP1 : Hid (w1.heap[w.heap.size]? = some (.cells #[.slice none 0 0] 24)) := Lib.hid (by rw [hw1]; exact (two_heap _ _ rfl).1)
  have HZ1 : Hid (w1.heap.size = w.heap.size + 2) := Lib.hid (by rw [hw1]; simp)
  have HG1 := Lib.hid (hG.below (HB1.out.mono hG.lt))
  have HGZ := Lib.hid hG.lt
  have HW1 := Lib.hid hw1
  clear hw1 hSc hG
  go_enter Tryz.func9, Tryz.ntmps9
  go_upto_region 1 with fail
  rw [← HW1.out]
  go_wp2_with fail
  refine (scanned_any s ts f B _ hs HG1.out HSC.out).mono ?_
  rintro e w2 ⟨v, rfl, ho2, hb2⟩
  rw [faultV_cells]
  obtain ⟨n, hn0⟩ : ∃ n, n = ts.length := ⟨_, rfl⟩
  obtain ⟨va, vc, rfl⟩ : ∃ va vc, v = .slice va n vc := by
    rcases Joins.ownsRow_forms ho2 with ⟨h5, h6⟩ | ⟨g, cap, h5⟩
    · exact ⟨none, 0, by rw [h5, hn0, h6]⟩
    · exact ⟨_, cap, by rw [h5, hn0]⟩
  have k2 : Kt (fun _ => True) w1 w2 := Kt.below hb2
  have HO2 := Lib.hid ho2
  have HF2 := Lib.hid (k2 _ _ _ HF1.out trivial)
  have HP2 := Lib.hid (k2 _ _ _ HP1.out trivial)
  have HB2 := Lib.hid (HB1.out.trans (hb2.mono HB1.out.size))
  have HS2 := Lib.hid hb2.size
  clear ho2 hb2 k2 hn0
  go_upto_region 2 with fail
  obtain ⟨w3, hw3⟩ : ∃ w3, w3 = w2.alloc (.cells #[.int .i64 (f.1 : Int), .int .i64 0, .int .i64 (f.2 : Int)] 27) := ⟨_, rfl⟩
  rw [← hw3]
  have HL3 : Hid (w3.heap[w2.heap.size]? = some (.cells #[.int .i64 (f.1 : Int), .int .i64 0, .int .i64 (f.2 : Int)] 27)) := Lib.hid (by rw [hw3]; exact heap_alloc_new _ _)
  have k3 : Kt (fun _ => True) w2 w3 := by rw [hw3]; exact Kt.alloc _ _
  have HO3 := Lib.hid (k3.own trivial HO2.out)
  have HF3 := Lib.hid (k3 _ _ _ HF2.out trivial)
  have HP3 := Lib.hid (k3 _ _ _ HP2.out trivial)
  have HB3 : Hid (Below w.heap.size w w3) := Lib.hid (by rw [hw3]; exact HB2.out.alloc HB2.out.size _)
  have HS3 : Hid (w3.heap.size = w2.heap.size + 1) := Lib.hid (by rw [hw3]; simp)
  obtain ⟨l, hl0⟩ : ∃ l, l = w2.heap.size := ⟨_, rfl⟩
  rw [← hl0] at HL3 ⊢
  have HLZ := Lib.hid hl0
  clear hw3 k3 hl0
  go_wp2_with fail
  refine (parse_prog s B ts f w3 hs HSC.out (Gl.below HG1.out (show Below B w1 w3 from ⟨by rw [HB3.out.os, HB1.out.os], by rw [HB3.out.tape, HB1.out.tape], by rw [HB3.out.output, HB1.out.output], by have := HS2.out; have := HS3.out; omega, fun k hk => by rw [HB3.out.block k (Nat.lt_of_lt_of_le hk HGZ.out), HB1.out.block k (Nat.lt_of_lt_of_le hk HGZ.out)]⟩)) hts).mono ?_
  rintro e w4 ⟨res, hres, hb4, he⟩
  have hlaw := Gr.prog_law (l := 0) (n := 0) hres
  have k4 : Kt (fun _ => True) w3 w4 := Kt.below hb4
  have HL4 := Lib.hid (k4 _ _ _ HL3.out trivial)
  have HO4 := Lib.hid (k4.own trivial HO3.out)
  have HF4 := Lib.hid (k4 _ _ _ HF3.out trivial)
  have HP4 := Lib.hid (k4 _ _ _ HP3.out trivial)
  have HB4 := Lib.hid (HB3.out.trans (hb4.mono HB3.out.size))
  have HS4 := Lib.hid hb4.size
  clear hb4 k4
  cases res with
  | error F =>
    obtain ⟨he, hne⟩ := he
    subst he
    rw [faultV_cells]
    have HLAW : Hid (Gr.J f false (beginN 0) 0 0 0 ts = F) := Lib.hid hlaw
    have HNE := Lib.hid hne
    have ec : ((F.1 : Int) != 0) = true := by simp; omega
    clear hres hlaw hne
    go_upto_region 5 with fail
    obtain ⟨w5, hw5⟩ : ∃ w5, w5 = (w4.alloc (.cells #[.slice none 0 0] 24)).alloc (.cells #[.int .i64 (F.1 : Int), .int .i64 0, .int .i64 (F.2 : Int)] 27) := ⟨_, rfl⟩
    rw [← hw5]
    have k5 : Kt (fun _ => True) w4 w5 := by rw [hw5]; exact (Kt.alloc w4 _).trans (Kt.alloc _ _)
    have HC5 : Hid (w5.heap[w4.heap.size]? = some (.cells #[.slice none 0 0] 24)) := Lib.hid (by rw [hw5]; exact (two_heap _ _ rfl).1)
    have HD5 : Hid (w5.heap[w4.heap.size + 1]? = some (.cells #[.int .i64 (F.1 : Int), .int .i64 0, .int .i64 (F.2 : Int)] 27)) := Lib.hid (by rw [hw5]; exact (two_heap _ _ rfl).2)
    have HB5 : Hid (Below w.heap.size w w5) := Lib.hid (by rw [hw5]; exact (HB4.out.alloc HB4.out.size _).alloc (by have := HB4.out.size; simp; omega) _)
    have HS5 : Hid (w5.heap.size = w4.heap.size + 2) := Lib.hid (by rw [hw5]; simp)
    obtain ⟨c, hc0⟩ : ∃ c, c = w4.heap.size := ⟨_, rfl⟩
    obtain ⟨dd, hd0⟩ : ∃ dd, dd = w4.heap.size + 1 := ⟨_, rfl⟩
    rw [← hd0] at HD5 ⊢
    rw [← hc0] at HC5 ⊢
    have HCZ := Lib.hid (show c = w4.heap.size ∧ dd = w4.heap.size + 1 from ⟨hc0, hd0⟩)
    have HL5 := Lib.hid (k5 _ _ _ HL4.out trivial)
    have HO5 := Lib.hid (k5.own trivial HO4.out)
    have HF5 := Lib.hid (k5 _ _ _ HF4.out trivial)
    have HP5 := Lib.hid (k5 _ _ _ HP4.out trivial)
    clear hw5 k5 hd0 hc0
    have hne := fault_ne (F.1 : Int) (F.2 : Int)
    obtain ⟨l0, l1, l2, lf0, lf1, lf2⟩ := row3 HL5.out
    obtain ⟨d0, d1, d2, df0, df1, df2⟩ := row3 HD5.out
    go_wp2_with fail
    refine (judged_any ts f _ _ 0 false _ HO5.out rfl hts).mono ?_
    rintro e w6 ⟨rfl, hb6⟩
    rw [HLAW.out, faultV_cells]
    clear l0 l1 l2 lf0 lf1 lf2 d0 d1 d2 df0 df1 df2
    have k6 : Kt (fun _ => True) w5 w6 := Kt.below hb6
    have hd6 := k6 _ _ _ HD5.out trivial
    obtain ⟨d0, d1, d2, df0, df1, df2⟩ := row3 hd6
    have HD6 := Lib.hid hd6
    have HC6 := Lib.hid (k6 _ _ _ HC5.out trivial)
    have HO6 := Lib.hid (k6.own trivial HO5.out)
    have HF6 := Lib.hid (k6 _ _ _ HF5.out trivial)
    have HP6 := Lib.hid (k6 _ _ _ HP5.out trivial)
    have HB6 := Lib.hid (HB5.out.trans (hb6.mono HB5.out.size))
    have HS6 := Lib.hid hb6.size
    clear hb6 k6 hd6 d0 d1 d2 df0 df1 df2
    go_upto_region 6 with fail
    obtain ⟨w7, hw7⟩ : ∃ w7, w7 = w6.alloc (.cells #[.int .i64 (F.1 : Int), .int .i64 0, .int .i64 (F.2 : Int)] 27) := ⟨_, rfl⟩
    rw [← hw7]
    have k7 : Kt (fun _ => True) w6 w7 := by rw [hw7]; exact Kt.alloc w6 _
    have hq7 : w7.heap[w6.heap.size]? = some (.cells #[.int .i64 (F.1 : Int), .int .i64 0, .int .i64 (F.2 : Int)] 27) := by rw [hw7]; exact heap_alloc_new _ _
    have hd7 := k7 _ _ _ HD6.out trivial
    have hc7 := k7 _ _ _ HC6.out trivial
    have HD7 := Lib.hid hd7
    have HC7 := Lib.hid hc7
    have HO7 := Lib.hid (k7.own trivial HO6.out)
    have HF7 := Lib.hid (k7 _ _ _ HF6.out trivial)
    have HP7 := Lib.hid (k7 _ _ _ HP6.out trivial)
    have HB7 : Hid (Below w.heap.size w w7) := Lib.hid (by rw [hw7]; exact HB6.out.alloc HB6.out.size _)
    obtain ⟨gq, hgq⟩ : ∃ gq, gq = w6.heap.size := ⟨_, rfl⟩
    rw [← hgq] at hq7 ⊢
    clear hw7 k7 hgq
    obtain ⟨d0, d1, d2, df0, df1, df2⟩ := row3 hd7
    obtain ⟨q0, q1, q2, qf0, qf1, qf2⟩ := row3 hq7
    obtain ⟨y0, y1, y2, yf0, yf1, yf2⟩ := row3 HF7.out
    obtain ⟨z0, zf0⟩ := row1c HP7.out
    obtain ⟨cc0, ccf0⟩ := row1c hc7
    have hn1 : ¬ dd = w.heap.size := by have := HCZ.out.2; have := HS4.out; have := HS3.out; have := HS2.out; have := HZ1.out; omega
    have hn2 : ¬ dd = w.heap.size + 1 := by have := HCZ.out.2; have := HS4.out; have := HS3.out; have := HS2.out; have := HZ1.out; omega
    have hn3 : ¬ c = w.heap.size := by have := HCZ.out.1; have := HS4.out; have := HS3.out; have := HS2.out; have := HZ1.out; omega
    have hn4 : ¬ c = w.heap.size + 1 := by have := HCZ.out.1; have := HS4.out; have := HS3.out; have := HS2.out; have := HZ1.out; omega
    have HBZ : Hid (Below w.heap.size w ((((w7.setCell ⟨w.heap.size, 0, none⟩ (.slice none 0 0)).setCell ⟨w.heap.size + 1, 0, none⟩ (.int .i64 (F.1 : Int))).setCell ⟨w.heap.size + 1, 1, none⟩ (.int .i64 0)).setCell ⟨w.heap.size + 1, 2, none⟩ (.int .i64 (F.2 : Int))).drew) := Lib.hid (((((HB7.out.setCell (p := ⟨w.heap.size, 0, none⟩) (by simp) _).setCell (p := ⟨w.heap.size + 1, 0, none⟩) (by simp) _).setCell (p := ⟨w.heap.size + 1, 1, none⟩) (by simp) _).setCell (p := ⟨w.heap.size + 1, 2, none⟩) (by simp) _)).drew
    have KT1 : Kt (fun t => t ≠ 24) w7 (w7.setCell ⟨w.heap.size, 0, none⟩ (.slice none 0 0)) := Kt.set (p := ⟨w.heap.size, 0, none⟩) HP7.out (by simp)
    have hf8 := KT1 _ _ _ HF7.out (by decide)
    have KT2 : Kt (fun t => t ≠ 27) (w7.setCell ⟨w.heap.size, 0, none⟩ (.slice none 0 0)) ((((w7.setCell ⟨w.heap.size, 0, none⟩ (.slice none 0 0)).setCell ⟨w.heap.size + 1, 0, none⟩ (.int .i64 (F.1 : Int))).setCell ⟨w.heap.size + 1, 1, none⟩ (.int .i64 0)).setCell ⟨w.heap.size + 1, 2, none⟩ (.int .i64 (F.2 : Int))) := tri_kt hf8 (by simp)
    have HPZ : Hid (((((w7.setCell ⟨w.heap.size, 0, none⟩ (.slice none 0 0)).setCell ⟨w.heap.size + 1, 0, none⟩ (.int .i64 (F.1 : Int))).setCell ⟨w.heap.size + 1, 1, none⟩ (.int .i64 0)).setCell ⟨w.heap.size + 1, 2, none⟩ (.int .i64 (F.2 : Int))).drew.heap[w.heap.size]? = some (.cells #[.slice none 0 0] 24)) := Lib.hid (by rw [drew_heap]; exact KT2 _ _ _ (one_setc HP7.out) (by decide))
    have HFZ : Hid (((((w7.setCell ⟨w.heap.size, 0, none⟩ (.slice none 0 0)).setCell ⟨w.heap.size + 1, 0, none⟩ (.int .i64 (F.1 : Int))).setCell ⟨w.heap.size + 1, 1, none⟩ (.int .i64 0)).setCell ⟨w.heap.size + 1, 2, none⟩ (.int .i64 (F.2 : Int))).drew.heap[w.heap.size + 1]? = some (.cells #[.int .i64 (F.1 : Int), .int .i64 0, .int .i64 (F.2 : Int)] 27)) := Lib.hid (by rw [drew_heap]; exact tri_set hf8)
    clear KT1 KT2 hf8 hd7 hc7 hq7
    go_upto_region 9 with fail
    go_region
    all_goals
      go_wp2
      refine bodyPost_ret (results_ccs rfl _ _ (.bool true) w.heap.size (w.heap.size + 1) 24 27 #[.slice none 0 0] #[.int .i64 (F.1 : Int), .int .i64 0, .int .i64 (F.2 : Int)] (0, 0) (0, 0) _ _ rfl HPZ.out Tryz.underlying24 rfl Tryz.size24 rfl HFZ.out Tryz.underlying27 rfl Tryz.size25 rfl) rfl ?_
      exact ⟨⟨none, 0, 0, F.1, F.2, rfl⟩, HBZ.out⟩
  | ok x =>
    obtain ⟨sl, he, hv⟩ := he
    subst he
    rw [faultV_cells]
    have HLAW : Hid (Gr.J f false (beginN 0) 0 0 0 ts = (0, 0)) := Lib.hid hlaw
    have hrd := Gr.prog_rd hres rfl HSH.out.1 HSH.out.2
    have HRV := Lib.hid hrd.v
    have hlen : (Gr.flatProg x).length ≤ 70000 := by rw [← hrd.at.1]; exact hts
    have HFU := Lib.hid (Gr.prog_full hres _ rfl)
    obtain ⟨sa, sc, rfl⟩ := hv.form
    obtain ⟨ln, hln⟩ : ∃ ln, ln = x.length := ⟨_, rfl⟩
    rw [← hln] at hv ⊢
    have HLN := Lib.hid hln
    have HV4 := Lib.hid hv
    clear hres hlaw hrd hv hln
    go_upto_region 5 with fail
    try simp only [show (((0 : Nat) : Int)) = 0 from rfl]
    obtain ⟨w5, hw5⟩ : ∃ w5, w5 = (w4.alloc (.cells #[.slice sa ln sc] 24)).alloc (.cells #[.int .i64 0, .int .i64 0, .int .i64 0] 27) := ⟨_, rfl⟩
    rw [← hw5]
    have k5 : Kt (fun _ => True) w4 w5 := by rw [hw5]; exact (Kt.alloc w4 _).trans (Kt.alloc _ _)
    have HC5 : Hid (w5.heap[w4.heap.size]? = some (.cells #[.slice sa ln sc] 24)) := Lib.hid (by rw [hw5]; exact (two_heap _ _ rfl).1)
    have HD5 : Hid (w5.heap[w4.heap.size + 1]? = some (.cells #[.int .i64 0, .int .i64 0, .int .i64 0] 27)) := Lib.hid (by rw [hw5]; exact (two_heap _ _ rfl).2)
    have HB5 : Hid (Below w.heap.size w w5) := Lib.hid (by rw [hw5]; exact (HB4.out.alloc HB4.out.size _).alloc (by have := HB4.out.size; simp; omega) _)
    have HS5 : Hid (w5.heap.size = w4.heap.size + 2) := Lib.hid (by rw [hw5]; simp)
    obtain ⟨c, hc0⟩ : ∃ c, c = w4.heap.size := ⟨_, rfl⟩
    obtain ⟨dd, hd0⟩ : ∃ dd, dd = w4.heap.size + 1 := ⟨_, rfl⟩
    rw [← hd0] at HD5 ⊢
    rw [← hc0] at HC5 ⊢
    have HCZ := Lib.hid (show c = w4.heap.size ∧ dd = w4.heap.size + 1 from ⟨hc0, hd0⟩)
    have HL5 := Lib.hid (k5 _ _ _ HL4.out trivial)
    have HO5 := Lib.hid (k5.own trivial HO4.out)
    have HF5 := Lib.hid (k5 _ _ _ HF4.out trivial)
    have HP5 := Lib.hid (k5 _ _ _ HP4.out trivial)
    have HV5 := Lib.hid (ProgV.kt HV4.out k5 trivial trivial trivial)
    clear hw5 k5 hd0 hc0
    have hne := fault_ne 0 0
    obtain ⟨l0, l1, l2, lf0, lf1, lf2⟩ := row3 HL5.out
    obtain ⟨d0, d1, d2, df0, df1, df2⟩ := row3 HD5.out
    go_wp2_with fail
    refine (judged_any ts f _ _ 0 false _ HO5.out rfl hts).mono ?_
    rintro e w6 ⟨rfl, hb6⟩
    rw [HLAW.out, faultV_cells]
    clear l0 l1 l2 lf0 lf1 lf2 d0 d1 d2 df0 df1 df2
    have k6 : Kt (fun _ => True) w5 w6 := Kt.below hb6
    have hd6 := k6 _ _ _ HD5.out trivial
    obtain ⟨d0, d1, d2, df0, df1, df2⟩ := row3 hd6
    have HD6 := Lib.hid hd6
    have HC6 := Lib.hid (k6 _ _ _ HC5.out trivial)
    have HO6 := Lib.hid (k6.own trivial HO5.out)
    have HF6 := Lib.hid (k6 _ _ _ HF5.out trivial)
    have HP6 := Lib.hid (k6 _ _ _ HP5.out trivial)
    have HB6 := Lib.hid (HB5.out.trans (hb6.mono HB5.out.size))
    have HS6 := Lib.hid hb6.size
    have HV6 := Lib.hid (ProgV.kt HV5.out k6 trivial trivial trivial)
    clear hb6 k6 hd6 d0 d1 d2 df0 df1 df2
    try simp only [show (((0 : Nat) : Int)) = 0 from rfl]
    go_upto_region 6 with fail
    obtain ⟨w7, hw7⟩ : ∃ w7, w7 = w6.alloc (.cells #[.int .i64 0, .int .i64 0, .int .i64 0] 27) := ⟨_, rfl⟩
    rw [← hw7]
    have k7 : Kt (fun _ => True) w6 w7 := by rw [hw7]; exact Kt.alloc w6 _
    have hq7 : w7.heap[w6.heap.size]? = some (.cells #[.int .i64 0, .int .i64 0, .int .i64 0] 27) := by rw [hw7]; exact heap_alloc_new _ _
    have hd7 := k7 _ _ _ HD6.out trivial
    have hc7 := k7 _ _ _ HC6.out trivial
    have HD7 := Lib.hid hd7
    have HC7 := Lib.hid hc7
    have HO7 := Lib.hid (k7.own trivial HO6.out)
    have HF7 := Lib.hid (k7 _ _ _ HF6.out trivial)
    have HP7 := Lib.hid (k7 _ _ _ HP6.out trivial)
    have HB7 : Hid (Below w.heap.size w w7) := Lib.hid (by rw [hw7]; exact HB6.out.alloc HB6.out.size _)
    have HV7 := Lib.hid (ProgV.kt HV6.out k7 trivial trivial trivial)
    obtain ⟨gq, hgq⟩ : ∃ gq, gq = w6.heap.size := ⟨_, rfl⟩
    rw [← hgq] at hq7 ⊢
    clear hw7 k7 hgq
    obtain ⟨d0, d1, d2, df0, df1, df2⟩ := row3 hd7
    obtain ⟨q0, q1, q2, qf0, qf1, qf2⟩ := row3 hq7
    obtain ⟨y0, y1, y2, yf0, yf1, yf2⟩ := row3 HF7.out
    obtain ⟨z0, zf0⟩ := row1c HP7.out
    obtain ⟨cc0, ccf0⟩ := row1c hc7
    have hn1 : ¬ dd = w.heap.size := by have := HCZ.out.2; have := HS4.out; have := HS3.out; have := HS2.out; have := HZ1.out; omega
    have hn2 : ¬ dd = w.heap.size + 1 := by have := HCZ.out.2; have := HS4.out; have := HS3.out; have := HS2.out; have := HZ1.out; omega
    have hn3 : ¬ c = w.heap.size := by have := HCZ.out.1; have := HS4.out; have := HS3.out; have := HS2.out; have := HZ1.out; omega
    have hn4 : ¬ c = w.heap.size + 1 := by have := HCZ.out.1; have := HS4.out; have := HS3.out; have := HS2.out; have := HZ1.out; omega
    have hnm := hn1
    go_wp2_with fail
    refine (flat_any x (.slice sa ln sc) _ _ HFU.out HV7.out hlen).mono ?_
    rintro e w8 ⟨u8, rfl, ho8, hb8⟩
    obtain ⟨oa, oc, rfl⟩ := ho8.form
    obtain ⟨on, hon⟩ : ∃ on, on = (Gr.flatProg x).length := ⟨_, rfl⟩
    rw [← hon] at ho8 ⊢
    clear hon
    have k8 : Kt (fun _ => True) w7 w8 := Kt.below hb8
    have HC8 := Lib.hid (k8 _ _ _ HC7.out trivial)
    have HD8 := Lib.hid (k8 _ _ _ HD7.out trivial)
    have HP8 := Lib.hid (k8 _ _ _ HP7.out trivial)
    have HF8 := Lib.hid (k8 _ _ _ HF7.out trivial)
    have HO8 := Lib.hid (k8.own trivial HO7.out)
    have HE8 := Lib.hid ho8.ev
    have HB8 := Lib.hid (HB7.out.trans (hb8.mono HB7.out.size))
    clear k8 hb8 ho8 d0 d1 d2 df0 df1 df2 q0 q1 q2 qf0 qf1 qf2 y0 y1 y2 yf0 yf1 yf2 z0 zf0 cc0 ccf0 hd7 hc7 hq7
    go_upto_region 11 with fail
    refine wp_region_H (fun z => z.heap[c]? = some (.cells #[.slice sa ln sc] 24) ∧ z.heap[dd]? = some (.cells #[.int .i64 0, .int .i64 0, .int .i64 0] 27)) (by kernel_rfl) ?_
    have hS : w8.drew.heap[c]? = some (.cells #[.slice sa ln sc] 24) ∧ w8.drew.heap[dd]? = some (.cells #[.int .i64 0, .int .i64 0, .int .i64 0] 27) := ⟨HC8.out, HD8.out⟩
    refine wpAnyH_tk 0 _ ?_ rfl rfl (by kernel_rfl) (fun _ _ _ h => h) (by assumption) (Or.inl ⟨by rfl, fun z hx => ?_⟩) ?_
    rotate_left
    · obtain ⟨cc0, ccf0⟩ := row1c hx.1
      obtain ⟨d0, d1, d2, df0, df1, df2⟩ := row3 hx.2
      clear hx
      go_simp
      try with_reducible rfl
    try simp only [Act.put, List.setIfInBounds_toArray, List.set_cons_zero, List.set_cons_succ]
    refine wpAnyH_tk 1 _ ?_ rfl rfl (by kernel_rfl) (fun _ _ _ h => h) (by assumption) (Or.inl ⟨by rfl, fun z hx => ?_⟩) ?_
    rotate_left
    · obtain ⟨cc0, ccf0⟩ := row1c hx.1
      obtain ⟨d0, d1, d2, df0, df1, df2⟩ := row3 hx.2
      clear hx
      go_simp
      try with_reducible rfl
    try simp only [Act.put, List.setIfInBounds_toArray, List.set_cons_zero, List.set_cons_succ]
    refine wpAnyH_tk 2 _ ?_ rfl rfl (by kernel_rfl) (fun _ _ _ h => h) (by assumption) (Or.inl ⟨by rfl, fun z hx => ?_⟩) ?_
    rotate_left
    · obtain ⟨cc0, ccf0⟩ := row1c hx.1
      obtain ⟨d0, d1, d2, df0, df1, df2⟩ := row3 hx.2
      clear hx
      go_simp
      try with_reducible rfl
    try simp only [Act.put, List.setIfInBounds_toArray, List.set_cons_zero, List.set_cons_succ]
    refine wpAnyH_tk 3 _ ?_ rfl rfl (by kernel_rfl) (fun _ _ _ h => h) (by assumption) (Or.inl ⟨by rfl, fun z hx => ?_⟩) ?_
    rotate_left
    · obtain ⟨cc0, ccf0⟩ := row1c hx.1
      obtain ⟨d0, d1, d2, df0, df1, df2⟩ := row3 hx.2
      clear hx
      go_simp
      try with_reducible rfl
    try simp only [Act.put, List.setIfInBounds_toArray, List.set_cons_zero, List.set_cons_succ]
    refine wpAnyH_tk 4 _ ?_ rfl rfl (by kernel_rfl) (fun _ _ _ h => h) (by assumption) (Or.inl ⟨by rfl, fun z hx => ?_⟩) ?_
    rotate_left
    · obtain ⟨cc0, ccf0⟩ := row1c hx.1
      obtain ⟨d0, d1, d2, df0, df1, df2⟩ := row3 hx.2
      clear hx
      go_simp
      try with_reducible rfl
    try simp only [Act.put, List.setIfInBounds_toArray, List.set_cons_zero, List.set_cons_succ]
    refine wpAnyH_tk 5 _ ?_ rfl rfl (by kernel_rfl) (fun _ _ _ h => h) (by assumption) (Or.inl ⟨by rfl, fun z hx => ?_⟩) ?_
    rotate_left
    · obtain ⟨cc0, ccf0⟩ := row1c hx.1
      obtain ⟨d0, d1, d2, df0, df1, df2⟩ := row3 hx.2
      clear hx
      go_simp
      try with_reducible rfl
    try simp only [Act.put, List.setIfInBounds_toArray, List.set_cons_zero, List.set_cons_succ]
    refine wpAnyH_one 6 rfl (by kernel_rfl) (fun K' hK' => ?_)
    rw [if_pos (by rfl)]
    go_simp
    go_at_call 15
    refine (readsAs_any ts ((Gr.flatProg x).map Gr.ev) _ _ _ _ w8.drew HO8.out (HE8.out) HRV.out hts).mono ?_
    rintro e wc ⟨rfl, hbc⟩
    have kc : Kt (fun _ => True) w8 wc := (Kt.drew _).trans (Kt.below hbc)
    have HFc := Lib.hid (kc _ _ _ HF8.out trivial)
    have HPc := Lib.hid (kc _ _ _ HP8.out trivial)
    have hSc : wc.heap[c]? = some (.cells #[.slice sa ln sc] 24) ∧ wc.heap[dd]? = some (.cells #[.int .i64 0, .int .i64 0, .int .i64 0] 27) := ⟨kc _ _ _ HC8.out trivial, kc _ _ _ HD8.out trivial⟩
    have HBc := Lib.hid (HB8.out.trans ((drew_below _ _).trans (hbc.mono HB8.out.size)))
    clear kc hbc hS
    refine hK' _ _ hSc ?_
    clear hK' K'
    try simp only [Act.put, List.setIfInBounds_toArray, List.set_cons_zero, List.set_cons_succ]
    refine wpAnyH_tk 7 _ ?_ rfl rfl (by kernel_rfl) (fun _ _ _ h => h) (by assumption) (Or.inl ⟨by rfl, fun z hx => ?_⟩) ?_
    rotate_left
    · obtain ⟨cc0, ccf0⟩ := row1c hx.1
      obtain ⟨d0, d1, d2, df0, df1, df2⟩ := row3 hx.2
      clear hx
      go_simp
      try with_reducible rfl
    try simp only [Act.put, List.setIfInBounds_toArray, List.set_cons_zero, List.set_cons_succ]
    obtain ⟨z0, zf0⟩ := row1c HPc.out
    refine wpAnyH_one 8 rfl (by kernel_rfl) (fun K' hK' => ?_)
    go_simp
    obtain ⟨we, hwe⟩ : ∃ we, we = wc.setCell ⟨w.heap.size, 0, none⟩ (.slice sa ln sc) := ⟨_, rfl⟩
    rw [← hwe]
    have KT1 : Kt (fun t => t ≠ 24) wc we := by rw [hwe]; exact Kt.set (p := ⟨w.heap.size, 0, none⟩) HPc.out (by simp)
    have HPe : Hid (we.heap[w.heap.size]? = some (.cells #[.slice sa ln sc] 24)) := Lib.hid (by rw [hwe]; exact one_setc HPc.out)
    have HFe := Lib.hid (KT1 _ _ _ HFc.out (by decide))
    have hSe : we.heap[c]? = some (.cells #[.slice sa ln sc] 24) ∧ we.heap[dd]? = some (.cells #[.int .i64 0, .int .i64 0, .int .i64 0] 27) := ⟨by rw [hwe, Below.heap_setCell _ _ _ _ hn3]; exact hSc.1, KT1 _ _ _ hSc.2 (by decide)⟩
    have HBe : Hid (Below w.heap.size w we) := Lib.hid (by rw [hwe]; exact HBc.out.setCell (p := ⟨w.heap.size, 0, none⟩) (by simp) _)
    clear hwe KT1 hSc z0 zf0
    refine hK' _ _ hSe ?_
    clear hK' K'
    try simp only [Act.put, List.setIfInBounds_toArray, List.set_cons_zero, List.set_cons_succ]
    obtain ⟨y0, y1, y2, yf0, yf1, yf2⟩ := row3 HFe.out
    refine wpAnyH_one 9 rfl (by kernel_rfl) (fun K' hK' => ?_)
    go_simp
    obtain ⟨wf, hwf⟩ : ∃ wf, wf = ((we.setCell ⟨w.heap.size + 1, 0, none⟩ (.int .i64 0)).setCell ⟨w.heap.size + 1, 1, none⟩ (.int .i64 0)).setCell ⟨w.heap.size + 1, 2, none⟩ (.int .i64 0) := ⟨_, rfl⟩
    rw [← hwf]
    have HFf : Hid (wf.heap[w.heap.size + 1]? = some (.cells #[.int .i64 0, .int .i64 0, .int .i64 0] 27)) := Lib.hid (by rw [hwf]; exact tri_set HFe.out)
    have KT2 : Kt (fun t => t ≠ 27) we wf := by rw [hwf]; exact tri_kt HFe.out (by simp)
    have HPf := Lib.hid (KT2 _ _ _ HPe.out (by decide))
    have hSf : wf.heap[c]? = some (.cells #[.slice sa ln sc] 24) ∧ wf.heap[dd]? = some (.cells #[.int .i64 0, .int .i64 0, .int .i64 0] 27) := ⟨KT2 _ _ _ hSe.1 (by decide), by rw [hwf, tri_oth hn2]; exact hSe.2⟩
    have HBf : Hid (Below w.heap.size w wf) := Lib.hid (by rw [hwf]; exact ((HBe.out.setCell (p := ⟨w.heap.size + 1, 0, none⟩) (by simp) _).setCell (p := ⟨w.heap.size + 1, 1, none⟩) (by simp) _).setCell (p := ⟨w.heap.size + 1, 2, none⟩) (by simp) _)
    clear hwf KT2 hSe y0 y1 y2 yf0 yf1 yf2
    refine hK' _ _ hSf ?_
    clear hK' K'
    try simp only [Act.put, List.setIfInBounds_toArray, List.set_cons_zero, List.set_cons_succ]
    refine wpAnyH_one 10 rfl (by kernel_rfl) (fun K' hK' => ?_)
    go_simp
    refine hK' _ _ hSf ?_
    clear hK' K'
    try simp only [Act.put, List.setIfInBounds_toArray, List.set_cons_zero, List.set_cons_succ]
    refine wpAnyH_done (by kernel_rfl) ?_ _
    go_wp2
    refine bodyPost_ret (results_ccs rfl _ _ (.bool true) w.heap.size (w.heap.size + 1) 24 27 #[.slice sa ln sc] #[.int .i64 0, .int .i64 0, .int .i64 0] (0, 0) (0, 0) _ _ rfl HPf.out Tryz.underlying24 rfl Tryz.size24 rfl HFf.out Tryz.underlying27 rfl Tryz.size25 rfl) rfl ?_
    exact ⟨⟨_, _, _, 0, 0, rfl⟩, HBf.out⟩

set_option maxRecDepth 100000 in
set_option maxHeartbeats 6400000 in
theorem factsOf_any (s : ByteArray) (B : Nat) (ts : List Tk) (f : Gr.Flt) (w : World) (hs : s.size ≤ 65536) (hSc : Sc (L s) 0 ts f) (hG : Gl B w) (hts : ts.length ≤ 70000) :
    Calls Tryz.prog 10 #[.string s] w fun e w' => (∃ (a : Option Addr) (n c k o : Nat), e = .returned (.tuple #[.slice a n c, FaultV k o, .bool true])) ∧ Below w.heap.size w w' := by
  obtain ⟨i62, bi, b0, b1, b2⟩ := info_parts Tryz.info62
  have HSH := Lib.hid (Gr.sc_shp hSc)
  have HSC := Lib.hid hSc
  obtain ⟨w1, hw1⟩ : ∃ w1, w1 = w.alloc (.cells #[.int .i64 0, .int .i64 0, .int .i64 0] 27) := ⟨_, rfl⟩
  have HB1 : Hid (Below w.heap.size w w1) := Lib.hid (by rw [hw1]; exact up_alloc _ _)
  have HF1 : Hid (w1.heap[w.heap.size]? = some (.cells #[.int .i64 0, .int .i64 0, .int .i64 0] 27)) := Lib.hid (by rw [hw1]; exact heap_alloc_new _ _)
  have HZ1 : Hid (w1.heap.size = w.heap.size + 1) := Lib.hid (by rw [hw1]; simp)
  have HG1 := Lib.hid (hG.below (HB1.out.mono hG.lt))
  have HGZ := Lib.hid hG.lt
  have HW1 := Lib.hid hw1
  clear hw1 hSc hG
  go_enter Tryz.func10, Tryz.ntmps10
  go_upto_region 1 with fail
  rw [← HW1.out]
  go_wp2_with fail
  refine (scanned_any s ts f B _ hs HG1.out HSC.out).mono ?_
  rintro e w2 ⟨v, rfl, ho2, hb2⟩
  rw [faultV_cells]
  obtain ⟨n, hn0⟩ : ∃ n, n = ts.length := ⟨_, rfl⟩
  obtain ⟨va, vc, rfl⟩ : ∃ va vc, v = .slice va n vc := by
    rcases Joins.ownsRow_forms ho2 with ⟨h5, h6⟩ | ⟨g, cap, h5⟩
    · exact ⟨none, 0, by rw [h5, hn0, h6]⟩
    · exact ⟨_, cap, by rw [h5, hn0]⟩
  have k2 : Kt (fun _ => True) w1 w2 := Kt.below hb2
  have HO2 := Lib.hid ho2
  have HF2 := Lib.hid (k2 _ _ _ HF1.out trivial)
  have HB2 := Lib.hid (HB1.out.trans (hb2.mono HB1.out.size))
  have HS2 := Lib.hid hb2.size
  clear ho2 hb2 k2 hn0
  go_upto_region 2 with fail
  obtain ⟨w3, hw3⟩ : ∃ w3, w3 = w2.alloc (.cells #[.int .i64 (f.1 : Int), .int .i64 0, .int .i64 (f.2 : Int)] 27) := ⟨_, rfl⟩
  rw [← hw3]
  have HL3 : Hid (w3.heap[w2.heap.size]? = some (.cells #[.int .i64 (f.1 : Int), .int .i64 0, .int .i64 (f.2 : Int)] 27)) := Lib.hid (by rw [hw3]; exact heap_alloc_new _ _)
  have k3 : Kt (fun _ => True) w2 w3 := by rw [hw3]; exact Kt.alloc _ _
  have HO3 := Lib.hid (k3.own trivial HO2.out)
  have HF3 := Lib.hid (k3 _ _ _ HF2.out trivial)
  have HB3 : Hid (Below w.heap.size w w3) := Lib.hid (by rw [hw3]; exact HB2.out.alloc HB2.out.size _)
  have HS3 : Hid (w3.heap.size = w2.heap.size + 1) := Lib.hid (by rw [hw3]; simp)
  obtain ⟨l, hl0⟩ : ∃ l, l = w2.heap.size := ⟨_, rfl⟩
  rw [← hl0] at HL3 ⊢
  have HLZ := Lib.hid hl0
  clear hw3 k3 hl0
  go_wp2_with fail
  refine (parse_facts s B ts f w3 hs HSC.out (Gl.below HG1.out (show Below B w1 w3 from ⟨by rw [HB3.out.os, HB1.out.os], by rw [HB3.out.tape, HB1.out.tape], by rw [HB3.out.output, HB1.out.output], by have := HS2.out; have := HS3.out; omega, fun k hk => by rw [HB3.out.block k (Nat.lt_of_lt_of_le hk HGZ.out), HB1.out.block k (Nat.lt_of_lt_of_le hk HGZ.out)]⟩)) hts).mono ?_
  rintro e w4 ⟨res, hres, hb4, he⟩
  have hlaw := Gr.facts_law (l := 0) (n := 0) hres
  have k4 : Kt (fun _ => True) w3 w4 := Kt.below hb4
  have HL4 := Lib.hid (k4 _ _ _ HL3.out trivial)
  have HO4 := Lib.hid (k4.own trivial HO3.out)
  have HF4 := Lib.hid (k4 _ _ _ HF3.out trivial)
  have HB4 := Lib.hid (HB3.out.trans (hb4.mono HB3.out.size))
  have HS4 := Lib.hid hb4.size
  clear hb4 k4
  cases res with
  | error F =>
    obtain ⟨he, hne⟩ := he
    subst he
    rw [faultV_cells]
    have HLAW : Hid (Gr.J f false (beginN 1) 0 0 0 ts = F) := Lib.hid hlaw
    have HNE := Lib.hid hne
    have ec : ((F.1 : Int) != 0) = true := by simp; omega
    clear hres hlaw hne
    go_upto_region 5 with fail
    obtain ⟨w5, hw5⟩ : ∃ w5, w5 = w4.alloc (.cells #[.int .i64 (F.1 : Int), .int .i64 0, .int .i64 (F.2 : Int)] 27) := ⟨_, rfl⟩
    rw [← hw5]
    have k5 : Kt (fun _ => True) w4 w5 := by rw [hw5]; exact Kt.alloc w4 _
    have HD5 : Hid (w5.heap[w4.heap.size]? = some (.cells #[.int .i64 (F.1 : Int), .int .i64 0, .int .i64 (F.2 : Int)] 27)) := Lib.hid (by rw [hw5]; exact heap_alloc_new _ _)
    have HB5 : Hid (Below w.heap.size w w5) := Lib.hid (by rw [hw5]; exact HB4.out.alloc HB4.out.size _)
    have HS5 : Hid (w5.heap.size = w4.heap.size + 1) := Lib.hid (by rw [hw5]; simp)
    obtain ⟨dd, hd0⟩ : ∃ dd, dd = w4.heap.size := ⟨_, rfl⟩
    rw [← hd0] at HD5 ⊢
    have HCZ := Lib.hid (show dd = w4.heap.size from hd0)
    have HL5 := Lib.hid (k5 _ _ _ HL4.out trivial)
    have HO5 := Lib.hid (k5.own trivial HO4.out)
    have HF5 := Lib.hid (k5 _ _ _ HF4.out trivial)
    clear hw5 k5 hd0
    have hne := fault_ne (F.1 : Int) (F.2 : Int)
    go_upto_region 5 with fail
    refine wp_region_H (fun z => z.heap[l]? = some (.cells #[.int .i64 (f.1 : Int), .int .i64 0, .int .i64 (f.2 : Int)] 27) ∧ z.heap[dd]? = some (.cells #[.int .i64 (F.1 : Int), .int .i64 0, .int .i64 (F.2 : Int)] 27)) (by kernel_rfl) ?_
    have hS : w5.drew.heap[l]? = some (.cells #[.int .i64 (f.1 : Int), .int .i64 0, .int .i64 (f.2 : Int)] 27) ∧ w5.drew.heap[dd]? = some (.cells #[.int .i64 (F.1 : Int), .int .i64 0, .int .i64 (F.2 : Int)] 27) := ⟨HL5.out, HD5.out⟩
    refine wpAnyH_tk 0 _ ?_ rfl rfl (by kernel_rfl) (fun _ _ _ h => h) (by assumption) (Or.inl ⟨by rfl, fun z hx => ?_⟩) ?_
    rotate_left
    · obtain ⟨hxa, hxb⟩ := hx
      obtain ⟨l0, l1, l2, lf0, lf1, lf2⟩ := row3 hxa
      obtain ⟨d0, d1, d2, df0, df1, df2⟩ := row3 hxb
      clear hxa hxb
      go_simp
      try with_reducible rfl
    try simp only [Act.put, List.setIfInBounds_toArray, List.set_cons_zero, List.set_cons_succ]
    refine wpAnyH_tk 1 _ ?_ rfl rfl (by kernel_rfl) (fun _ _ _ h => h) (by assumption) (Or.inl ⟨by rfl, fun z hx => ?_⟩) ?_
    rotate_left
    · obtain ⟨hxa, hxb⟩ := hx
      obtain ⟨l0, l1, l2, lf0, lf1, lf2⟩ := row3 hxa
      obtain ⟨d0, d1, d2, df0, df1, df2⟩ := row3 hxb
      clear hxa hxb
      go_simp
      try with_reducible rfl
    try simp only [Act.put, List.setIfInBounds_toArray, List.set_cons_zero, List.set_cons_succ]
    refine wpAnyH_tk 2 _ ?_ rfl rfl (by kernel_rfl) (fun _ _ _ h => h) (by assumption) (Or.inl ⟨by rfl, fun z hx => ?_⟩) ?_
    rotate_left
    · obtain ⟨hxa, hxb⟩ := hx
      obtain ⟨l0, l1, l2, lf0, lf1, lf2⟩ := row3 hxa
      obtain ⟨d0, d1, d2, df0, df1, df2⟩ := row3 hxb
      clear hxa hxb
      go_simp
      try with_reducible rfl
    try simp only [Act.put, List.setIfInBounds_toArray, List.set_cons_zero, List.set_cons_succ]
    refine wpAnyH_one 3 rfl (by kernel_rfl) (fun K' hK' => ?_)
    go_simp
    go_at_call 12
    refine (judged_any ts f _ _ 1 false w5.drew HO5.out rfl hts).mono ?_
    rintro e w7 ⟨rfl, hb7⟩
    rw [HLAW.out, faultV_cells]
    have k7 : Kt (fun _ => True) w5 w7 := (Kt.drew w5).trans (Kt.below hb7)
    have hS7 : w7.heap[l]? = some (.cells #[.int .i64 (f.1 : Int), .int .i64 0, .int .i64 (f.2 : Int)] 27) ∧ w7.heap[dd]? = some (.cells #[.int .i64 (F.1 : Int), .int .i64 0, .int .i64 (F.2 : Int)] 27) := ⟨k7 _ _ _ HL5.out trivial, k7 _ _ _ HD5.out trivial⟩
    have hd7 := hS7.2
    have HD7 := Lib.hid hd7
    have HO7 := Lib.hid (k7.own trivial HO5.out)
    have HF7 := Lib.hid (k7 _ _ _ HF5.out trivial)
    have HB7 := Lib.hid (HB5.out.trans ((drew_below w5 _).trans (hb7.mono HB5.out.size)))
    clear hS hb7 k7
    refine hK' _ _ hS7 ?_
    clear hK' K'
    try simp only [Act.put, List.setIfInBounds_toArray, List.set_cons_zero, List.set_cons_succ]
    refine wpAnyH_one 4 rfl (by kernel_rfl) (fun K' hK' => ?_)
    go_simp
    refine hK' _ _ hS7 ?_
    clear hK' K'
    try simp only [Act.put, List.setIfInBounds_toArray, List.set_cons_zero, List.set_cons_succ]
    refine wpAnyH_done (by kernel_rfl) ?_ _
    clear hS7
    obtain ⟨d0, d1, d2, df0, df1, df2⟩ := row3 hd7
    obtain ⟨y0, y1, y2, yf0, yf1, yf2⟩ := row3 HF7.out
    have hn1 : ¬ dd = w.heap.size := by have := HCZ.out; have := HS4.out; have := HS3.out; have := HS2.out; have := HZ1.out; omega
    have HBZ : Hid (Below w.heap.size w (((w7.setCell ⟨w.heap.size, 0, none⟩ (.int .i64 (F.1 : Int))).setCell ⟨w.heap.size, 1, none⟩ (.int .i64 0)).setCell ⟨w.heap.size, 2, none⟩ (.int .i64 (F.2 : Int))).drew) := Lib.hid ((((HB7.out.setCell (p := ⟨w.heap.size, 0, none⟩) (by simp) _).setCell (p := ⟨w.heap.size, 1, none⟩) (by simp) _).setCell (p := ⟨w.heap.size, 2, none⟩) (by simp) _)).drew
    have HFZ : Hid ((((w7.setCell ⟨w.heap.size, 0, none⟩ (.int .i64 (F.1 : Int))).setCell ⟨w.heap.size, 1, none⟩ (.int .i64 0)).setCell ⟨w.heap.size, 2, none⟩ (.int .i64 (F.2 : Int))).drew.heap[w.heap.size]? = some (.cells #[.int .i64 (F.1 : Int), .int .i64 0, .int .i64 (F.2 : Int)] 27)) := Lib.hid (by rw [drew_heap]; exact tri_set HF7.out)
    clear hd7
    go_upto_region 8 with fail
    go_region
    all_goals
      go_wp2
      refine bodyPost_ret (results_three rfl _ _ (.slice none 0 0) (.bool true) w.heap.size 27 #[.int .i64 (F.1 : Int), .int .i64 0, .int .i64 (F.2 : Int)] (0, 0) _ rfl rfl rfl HFZ.out Tryz.underlying27 rfl Tryz.size25) rfl ?_
      exact ⟨⟨none, 0, 0, F.1, F.2, rfl⟩, HBZ.out⟩
  | ok x =>
    obtain ⟨sl, he, hv⟩ := he
    subst he
    rw [faultV_cells]
    have HLAW : Hid (Gr.J f false (beginN 1) 0 0 0 ts = (0, 0)) := Lib.hid hlaw
    have hrd := Gr.facts_rd hres rfl HSH.out.1 HSH.out.2
    have HRV := Lib.hid hrd.v
    have hlen : (Gr.flatFacts x).length ≤ 70000 := by rw [← hrd.at.1]; exact hts
    have HFU := Lib.hid (Gr.facts_full hres _ rfl)
    obtain ⟨sa, sc, rfl⟩ := hv.form
    obtain ⟨ln, hln⟩ : ∃ ln, ln = x.length := ⟨_, rfl⟩
    rw [← hln] at hv ⊢
    have HLN := Lib.hid hln
    have HV4 := Lib.hid hv
    clear hres hlaw hrd hv hln
    go_upto_region 5 with fail
    try simp only [show (((0 : Nat) : Int)) = 0 from rfl]
    obtain ⟨w5, hw5⟩ : ∃ w5, w5 = w4.alloc (.cells #[.int .i64 0, .int .i64 0, .int .i64 0] 27) := ⟨_, rfl⟩
    rw [← hw5]
    have k5 : Kt (fun _ => True) w4 w5 := by rw [hw5]; exact Kt.alloc w4 _
    have HD5 : Hid (w5.heap[w4.heap.size]? = some (.cells #[.int .i64 0, .int .i64 0, .int .i64 0] 27)) := Lib.hid (by rw [hw5]; exact heap_alloc_new _ _)
    have HB5 : Hid (Below w.heap.size w w5) := Lib.hid (by rw [hw5]; exact HB4.out.alloc HB4.out.size _)
    have HS5 : Hid (w5.heap.size = w4.heap.size + 1) := Lib.hid (by rw [hw5]; simp)
    obtain ⟨dd, hd0⟩ : ∃ dd, dd = w4.heap.size := ⟨_, rfl⟩
    rw [← hd0] at HD5 ⊢
    have HCZ := Lib.hid (show dd = w4.heap.size from hd0)
    have HL5 := Lib.hid (k5 _ _ _ HL4.out trivial)
    have HO5 := Lib.hid (k5.own trivial HO4.out)
    have HF5 := Lib.hid (k5 _ _ _ HF4.out trivial)
    have HV5 := Lib.hid (AtmsV.kt HV4.out k5 trivial trivial)
    clear hw5 k5 hd0
    have hne := fault_ne 0 0
    go_upto_region 5 with fail
    refine wp_region_H (fun z => z.heap[l]? = some (.cells #[.int .i64 (f.1 : Int), .int .i64 0, .int .i64 (f.2 : Int)] 27) ∧ z.heap[dd]? = some (.cells #[.int .i64 0, .int .i64 0, .int .i64 0] 27)) (by kernel_rfl) ?_
    have hS : w5.drew.heap[l]? = some (.cells #[.int .i64 (f.1 : Int), .int .i64 0, .int .i64 (f.2 : Int)] 27) ∧ w5.drew.heap[dd]? = some (.cells #[.int .i64 0, .int .i64 0, .int .i64 0] 27) := ⟨HL5.out, HD5.out⟩
    refine wpAnyH_tk 0 _ ?_ rfl rfl (by kernel_rfl) (fun _ _ _ h => h) (by assumption) (Or.inl ⟨by rfl, fun z hx => ?_⟩) ?_
    rotate_left
    · obtain ⟨hxa, hxb⟩ := hx
      obtain ⟨l0, l1, l2, lf0, lf1, lf2⟩ := row3 hxa
      obtain ⟨d0, d1, d2, df0, df1, df2⟩ := row3 hxb
      clear hxa hxb
      go_simp
      try with_reducible rfl
    try simp only [Act.put, List.setIfInBounds_toArray, List.set_cons_zero, List.set_cons_succ]
    refine wpAnyH_tk 1 _ ?_ rfl rfl (by kernel_rfl) (fun _ _ _ h => h) (by assumption) (Or.inl ⟨by rfl, fun z hx => ?_⟩) ?_
    rotate_left
    · obtain ⟨hxa, hxb⟩ := hx
      obtain ⟨l0, l1, l2, lf0, lf1, lf2⟩ := row3 hxa
      obtain ⟨d0, d1, d2, df0, df1, df2⟩ := row3 hxb
      clear hxa hxb
      go_simp
      try with_reducible rfl
    try simp only [Act.put, List.setIfInBounds_toArray, List.set_cons_zero, List.set_cons_succ]
    refine wpAnyH_tk 2 _ ?_ rfl rfl (by kernel_rfl) (fun _ _ _ h => h) (by assumption) (Or.inl ⟨by rfl, fun z hx => ?_⟩) ?_
    rotate_left
    · obtain ⟨hxa, hxb⟩ := hx
      obtain ⟨l0, l1, l2, lf0, lf1, lf2⟩ := row3 hxa
      obtain ⟨d0, d1, d2, df0, df1, df2⟩ := row3 hxb
      clear hxa hxb
      go_simp
      try with_reducible rfl
    try simp only [Act.put, List.setIfInBounds_toArray, List.set_cons_zero, List.set_cons_succ]
    refine wpAnyH_one 3 rfl (by kernel_rfl) (fun K' hK' => ?_)
    go_simp
    go_at_call 12
    refine (judged_any ts f _ _ 1 false w5.drew HO5.out rfl hts).mono ?_
    rintro e w7 ⟨rfl, hb7⟩
    rw [HLAW.out, faultV_cells]
    have k7 : Kt (fun _ => True) w5 w7 := (Kt.drew w5).trans (Kt.below hb7)
    have hS7 : w7.heap[l]? = some (.cells #[.int .i64 (f.1 : Int), .int .i64 0, .int .i64 (f.2 : Int)] 27) ∧ w7.heap[dd]? = some (.cells #[.int .i64 0, .int .i64 0, .int .i64 0] 27) := ⟨k7 _ _ _ HL5.out trivial, k7 _ _ _ HD5.out trivial⟩
    have hd7 := hS7.2
    have HD7 := Lib.hid hd7
    have HO7 := Lib.hid (k7.own trivial HO5.out)
    have HF7 := Lib.hid (k7 _ _ _ HF5.out trivial)
    have HB7 := Lib.hid (HB5.out.trans ((drew_below w5 _).trans (hb7.mono HB5.out.size)))
    have HV7 := Lib.hid (AtmsV.kt HV5.out k7 trivial trivial)
    clear hS hb7 k7
    try simp only [show (((0 : Nat) : Int)) = 0 from rfl]
    refine hK' _ _ hS7 ?_
    clear hK' K'
    try simp only [Act.put, List.setIfInBounds_toArray, List.set_cons_zero, List.set_cons_succ]
    refine wpAnyH_one 4 rfl (by kernel_rfl) (fun K' hK' => ?_)
    go_simp
    refine hK' _ _ hS7 ?_
    clear hK' K'
    try simp only [Act.put, List.setIfInBounds_toArray, List.set_cons_zero, List.set_cons_succ]
    refine wpAnyH_done (by kernel_rfl) ?_ _
    clear hS7
    obtain ⟨d0, d1, d2, df0, df1, df2⟩ := row3 hd7
    obtain ⟨y0, y1, y2, yf0, yf1, yf2⟩ := row3 HF7.out
    have hn1 : ¬ dd = w.heap.size := by have := HCZ.out; have := HS4.out; have := HS3.out; have := HS2.out; have := HZ1.out; omega
    clear d0 d1 d2 df0 df1 df2 y0 y1 y2 yf0 yf1 yf2 hd7
    have d8 := row3 HD7.out
    obtain ⟨d0, d1, d2, df0, df1, df2⟩ := d8
    go_upto_region 9 with fail
    clear d0 d1 d2 df0 df1 df2
    refine wp_region_H (fun z => z.heap[dd]? = some (.cells #[.int .i64 0, .int .i64 0, .int .i64 0] 27)) (by kernel_rfl) ?_
    have hS : w7.drew.heap[dd]? = some (.cells #[.int .i64 0, .int .i64 0, .int .i64 0] 27) := HD7.out
    refine wpAnyH_tk 0 _ ?_ rfl rfl (by kernel_rfl) (fun _ _ _ h => h) (by assumption) (Or.inl ⟨by rfl, fun z hx => ?_⟩) ?_
    rotate_left
    · obtain ⟨d0, d1, d2, df0, df1, df2⟩ := row3 hx
      clear hx
      go_simp
      try with_reducible rfl
    try simp only [Act.put, List.setIfInBounds_toArray, List.set_cons_zero, List.set_cons_succ]
    refine wpAnyH_tk 1 _ ?_ rfl rfl (by kernel_rfl) (fun _ _ _ h => h) (by assumption) (Or.inl ⟨by rfl, fun z hx => ?_⟩) ?_
    rotate_left
    · obtain ⟨d0, d1, d2, df0, df1, df2⟩ := row3 hx
      clear hx
      go_simp
      try with_reducible rfl
    try simp only [Act.put, List.setIfInBounds_toArray, List.set_cons_zero, List.set_cons_succ]
    refine wpAnyH_tk 2 _ ?_ rfl rfl (by kernel_rfl) (fun _ _ _ h => h) (by assumption) (Or.inl ⟨by rfl, fun z hx => ?_⟩) ?_
    rotate_left
    · obtain ⟨d0, d1, d2, df0, df1, df2⟩ := row3 hx
      clear hx
      go_simp
      try with_reducible rfl
    try simp only [Act.put, List.setIfInBounds_toArray, List.set_cons_zero, List.set_cons_succ]
    refine wpAnyH_tk 3 _ ?_ rfl rfl (by kernel_rfl) (fun _ _ _ h => h) (by assumption) (Or.inl ⟨by rfl, fun z hx => ?_⟩) ?_
    rotate_left
    · obtain ⟨d0, d1, d2, df0, df1, df2⟩ := row3 hx
      clear hx
      go_simp
      try with_reducible rfl
    try simp only [Act.put, List.setIfInBounds_toArray, List.set_cons_zero, List.set_cons_succ]
    refine wpAnyH_one 4 rfl (by kernel_rfl) (fun K' hK' => ?_)
    go_simp
    go_at_call 31
    refine (flatFacts_any x (.slice sa ln sc) _ w7.drew HFU.out (AtmsV.kt HV7.out (Kt.drew (T := fun _ => True) w7) trivial trivial) hlen).mono ?_
    rintro e w8 ⟨u8, rfl, ho8, hb8⟩
    obtain ⟨oa, oc, rfl⟩ := ho8.form
    obtain ⟨on, hon⟩ : ∃ on, on = (Gr.flatFacts x).length := ⟨_, rfl⟩
    rw [← hon] at ho8 ⊢
    clear hon
    have k8 : Kt (fun _ => True) w7 w8 := (Kt.drew _).trans (Kt.below hb8)
    have hS8 : w8.heap[dd]? = some (.cells #[.int .i64 0, .int .i64 0, .int .i64 0] 27) := k8 _ _ _ HD7.out trivial
    have HD8 := Lib.hid hS8
    have HF8 := Lib.hid (k8 _ _ _ HF7.out trivial)
    have HO8 := Lib.hid (k8.own trivial HO7.out)
    have HE8 := Lib.hid ho8.ev
    have HB8 := Lib.hid (HB7.out.trans ((drew_below _ _).trans (hb8.mono HB7.out.size)))
    clear k8 hb8 ho8 hS
    refine hK' _ _ hS8 ?_
    clear hK' K'
    try simp only [Act.put, List.setIfInBounds_toArray, List.set_cons_zero, List.set_cons_succ]
    refine wpAnyH_one 5 rfl (by kernel_rfl) (fun K' hK' => ?_)
    go_simp
    go_at_call 15
    refine (readsAs_any ts ((Gr.flatFacts x).map Gr.ev) _ _ _ _ w8 HO8.out HE8.out HRV.out hts).mono ?_
    rintro e wc ⟨rfl, hbc⟩
    have kc : Kt (fun _ => True) w8 wc := Kt.below hbc
    have HFc := Lib.hid (kc _ _ _ HF8.out trivial)
    have hSc : wc.heap[dd]? = some (.cells #[.int .i64 0, .int .i64 0, .int .i64 0] 27) := kc _ _ _ HD8.out trivial
    have HBc := Lib.hid (HB8.out.trans (hbc.mono HB8.out.size))
    clear kc hbc hS8
    refine hK' _ _ hSc ?_
    clear hK' K'
    try simp only [Act.put, List.setIfInBounds_toArray, List.set_cons_zero, List.set_cons_succ]
    refine wpAnyH_one 6 rfl (by kernel_rfl) (fun K' hK' => ?_)
    go_simp
    refine hK' _ _ hSc ?_
    clear hK' K'
    try simp only [Act.put, List.setIfInBounds_toArray, List.set_cons_zero, List.set_cons_succ]
    obtain ⟨y0, y1, y2, yf0, yf1, yf2⟩ := row3 HFc.out
    refine wpAnyH_one 7 rfl (by kernel_rfl) (fun K' hK' => ?_)
    go_simp
    obtain ⟨wf, hwf⟩ : ∃ wf, wf = ((wc.setCell ⟨w.heap.size, 0, none⟩ (.int .i64 0)).setCell ⟨w.heap.size, 1, none⟩ (.int .i64 0)).setCell ⟨w.heap.size, 2, none⟩ (.int .i64 0) := ⟨_, rfl⟩
    rw [← hwf]
    have HFf : Hid (wf.heap[w.heap.size]? = some (.cells #[.int .i64 0, .int .i64 0, .int .i64 0] 27)) := Lib.hid (by rw [hwf]; exact tri_set HFc.out)
    have hSf : wf.heap[dd]? = some (.cells #[.int .i64 0, .int .i64 0, .int .i64 0] 27) := by rw [hwf, tri_oth hn1]; exact hSc
    have HBf : Hid (Below w.heap.size w wf) := Lib.hid (by rw [hwf]; exact ((HBc.out.setCell (p := ⟨w.heap.size, 0, none⟩) (by simp) _).setCell (p := ⟨w.heap.size, 1, none⟩) (by simp) _).setCell (p := ⟨w.heap.size, 2, none⟩) (by simp) _)
    clear hwf hSc y0 y1 y2 yf0 yf1 yf2
    refine hK' _ _ hSf ?_
    clear hK' K'
    try simp only [Act.put, List.setIfInBounds_toArray, List.set_cons_zero, List.set_cons_succ]
    refine wpAnyH_one 8 rfl (by kernel_rfl) (fun K' hK' => ?_)
    go_simp
    refine hK' _ _ hSf ?_
    clear hK' K'
    try simp only [Act.put, List.setIfInBounds_toArray, List.set_cons_zero, List.set_cons_succ]
    refine wpAnyH_done (by kernel_rfl) ?_ _
    go_wp2
    refine bodyPost_ret (results_three rfl _ _ (.slice sa ln sc) (.bool true) w.heap.size 27 #[.int .i64 0, .int .i64 0, .int .i64 0] (0, 0) _ rfl rfl rfl HFf.out Tryz.underlying27 rfl Tryz.size25) rfl ?_
    exact ⟨⟨_, _, _, 0, 0, rfl⟩, HBf.out⟩

set_option maxRecDepth 100000 in
set_option maxHeartbeats 6400000 in
theorem queryOf_any (s : ByteArray) (B : Nat) (ts : List Tk) (f : Gr.Flt) (w : World) (hs : s.size ≤ 65536) (hSc : Sc (L s) 0 ts f) (hG : Gl B w) (hts : ts.length ≤ 70000) :
    Calls Tryz.prog 11 #[.string s] w fun e w' => (∃ (a : Option Addr) (n c k o : Nat), e = .returned (.tuple #[.slice a n c, FaultV k o, .bool true])) ∧ Below w.heap.size w w' := by
  obtain ⟨i62, bi, b0, b1, b2⟩ := info_parts Tryz.info62
  have HSH := Lib.hid (Gr.sc_shp hSc)
  have HSC := Lib.hid hSc
  obtain ⟨w1, hw1⟩ : ∃ w1, w1 = w.alloc (.cells #[.int .i64 0, .int .i64 0, .int .i64 0] 27) := ⟨_, rfl⟩
  have HB1 : Hid (Below w.heap.size w w1) := Lib.hid (by rw [hw1]; exact up_alloc _ _)
  have HF1 : Hid (w1.heap[w.heap.size]? = some (.cells #[.int .i64 0, .int .i64 0, .int .i64 0] 27)) := Lib.hid (by rw [hw1]; exact heap_alloc_new _ _)
  have HZ1 : Hid (w1.heap.size = w.heap.size + 1) := Lib.hid (by rw [hw1]; simp)
  have HG1 := Lib.hid (hG.below (HB1.out.mono hG.lt))
  have HGZ := Lib.hid hG.lt
  have HW1 := Lib.hid hw1
  clear hw1 hSc hG
  go_enter Tryz.func11, Tryz.ntmps11
  go_upto_region 1 with fail
  rw [← HW1.out]
  go_wp2_with fail
  refine (scanned_any s ts f B _ hs HG1.out HSC.out).mono ?_
  rintro e w2 ⟨v, rfl, ho2, hb2⟩
  rw [faultV_cells]
  obtain ⟨n, hn0⟩ : ∃ n, n = ts.length := ⟨_, rfl⟩
  obtain ⟨va, vc, rfl⟩ : ∃ va vc, v = .slice va n vc := by
    rcases Joins.ownsRow_forms ho2 with ⟨h5, h6⟩ | ⟨g, cap, h5⟩
    · exact ⟨none, 0, by rw [h5, hn0, h6]⟩
    · exact ⟨_, cap, by rw [h5, hn0]⟩
  have k2 : Kt (fun _ => True) w1 w2 := Kt.below hb2
  have HO2 := Lib.hid ho2
  have HF2 := Lib.hid (k2 _ _ _ HF1.out trivial)
  have HB2 := Lib.hid (HB1.out.trans (hb2.mono HB1.out.size))
  have HS2 := Lib.hid hb2.size
  clear ho2 hb2 k2 hn0
  go_upto_region 2 with fail
  obtain ⟨w3, hw3⟩ : ∃ w3, w3 = w2.alloc (.cells #[.int .i64 (f.1 : Int), .int .i64 0, .int .i64 (f.2 : Int)] 27) := ⟨_, rfl⟩
  rw [← hw3]
  have HL3 : Hid (w3.heap[w2.heap.size]? = some (.cells #[.int .i64 (f.1 : Int), .int .i64 0, .int .i64 (f.2 : Int)] 27)) := Lib.hid (by rw [hw3]; exact heap_alloc_new _ _)
  have k3 : Kt (fun _ => True) w2 w3 := by rw [hw3]; exact Kt.alloc _ _
  have HO3 := Lib.hid (k3.own trivial HO2.out)
  have HF3 := Lib.hid (k3 _ _ _ HF2.out trivial)
  have HB3 : Hid (Below w.heap.size w w3) := Lib.hid (by rw [hw3]; exact HB2.out.alloc HB2.out.size _)
  have HS3 : Hid (w3.heap.size = w2.heap.size + 1) := Lib.hid (by rw [hw3]; simp)
  obtain ⟨l, hl0⟩ : ∃ l, l = w2.heap.size := ⟨_, rfl⟩
  rw [← hl0] at HL3 ⊢
  have HLZ := Lib.hid hl0
  clear hw3 k3 hl0
  go_wp2_with fail
  refine (parse_query s B ts f w3 hs HSC.out (Gl.below HG1.out (show Below B w1 w3 from ⟨by rw [HB3.out.os, HB1.out.os], by rw [HB3.out.tape, HB1.out.tape], by rw [HB3.out.output, HB1.out.output], by have := HS2.out; have := HS3.out; omega, fun k hk => by rw [HB3.out.block k (Nat.lt_of_lt_of_le hk HGZ.out), HB1.out.block k (Nat.lt_of_lt_of_le hk HGZ.out)]⟩)) hts).mono ?_
  rintro e w4 ⟨res, hres, hb4, he⟩
  have hlaw := Gr.query_law hres
  have k4 : Kt (fun _ => True) w3 w4 := Kt.below hb4
  have HL4 := Lib.hid (k4 _ _ _ HL3.out trivial)
  have HO4 := Lib.hid (k4.own trivial HO3.out)
  have HF4 := Lib.hid (k4 _ _ _ HF3.out trivial)
  have HB4 := Lib.hid (HB3.out.trans (hb4.mono HB3.out.size))
  have HS4 := Lib.hid hb4.size
  clear hb4 k4
  cases res with
  | error F =>
    obtain ⟨he, hne⟩ := he
    subst he
    rw [faultV_cells]
    have HLAW : Hid (Gr.J f true (beginN 2) 0 0 0 ts = F) := Lib.hid hlaw
    have HNE := Lib.hid hne
    have ec : ((F.1 : Int) != 0) = true := by simp; omega
    clear hres hlaw hne
    go_upto_region 5 with fail
    obtain ⟨w5, hw5⟩ : ∃ w5, w5 = w4.alloc (.cells #[.int .i64 (F.1 : Int), .int .i64 0, .int .i64 (F.2 : Int)] 27) := ⟨_, rfl⟩
    rw [← hw5]
    have k5 : Kt (fun _ => True) w4 w5 := by rw [hw5]; exact Kt.alloc w4 _
    have HD5 : Hid (w5.heap[w4.heap.size]? = some (.cells #[.int .i64 (F.1 : Int), .int .i64 0, .int .i64 (F.2 : Int)] 27)) := Lib.hid (by rw [hw5]; exact heap_alloc_new _ _)
    have HB5 : Hid (Below w.heap.size w w5) := Lib.hid (by rw [hw5]; exact HB4.out.alloc HB4.out.size _)
    have HS5 : Hid (w5.heap.size = w4.heap.size + 1) := Lib.hid (by rw [hw5]; simp)
    obtain ⟨dd, hd0⟩ : ∃ dd, dd = w4.heap.size := ⟨_, rfl⟩
    rw [← hd0] at HD5 ⊢
    have HCZ := Lib.hid (show dd = w4.heap.size from hd0)
    have HL5 := Lib.hid (k5 _ _ _ HL4.out trivial)
    have HO5 := Lib.hid (k5.own trivial HO4.out)
    have HF5 := Lib.hid (k5 _ _ _ HF4.out trivial)
    clear hw5 k5 hd0
    have hne := fault_ne (F.1 : Int) (F.2 : Int)
    go_upto_region 5 with fail
    refine wp_region_H (fun z => z.heap[l]? = some (.cells #[.int .i64 (f.1 : Int), .int .i64 0, .int .i64 (f.2 : Int)] 27) ∧ z.heap[dd]? = some (.cells #[.int .i64 (F.1 : Int), .int .i64 0, .int .i64 (F.2 : Int)] 27)) (by kernel_rfl) ?_
    have hS : w5.drew.heap[l]? = some (.cells #[.int .i64 (f.1 : Int), .int .i64 0, .int .i64 (f.2 : Int)] 27) ∧ w5.drew.heap[dd]? = some (.cells #[.int .i64 (F.1 : Int), .int .i64 0, .int .i64 (F.2 : Int)] 27) := ⟨HL5.out, HD5.out⟩
    refine wpAnyH_tk 0 _ ?_ rfl rfl (by kernel_rfl) (fun _ _ _ h => h) (by assumption) (Or.inl ⟨by rfl, fun z hx => ?_⟩) ?_
    rotate_left
    · obtain ⟨hxa, hxb⟩ := hx
      obtain ⟨l0, l1, l2, lf0, lf1, lf2⟩ := row3 hxa
      obtain ⟨d0, d1, d2, df0, df1, df2⟩ := row3 hxb
      clear hxa hxb
      go_simp
      try with_reducible rfl
    try simp only [Act.put, List.setIfInBounds_toArray, List.set_cons_zero, List.set_cons_succ]
    refine wpAnyH_tk 1 _ ?_ rfl rfl (by kernel_rfl) (fun _ _ _ h => h) (by assumption) (Or.inl ⟨by rfl, fun z hx => ?_⟩) ?_
    rotate_left
    · obtain ⟨hxa, hxb⟩ := hx
      obtain ⟨l0, l1, l2, lf0, lf1, lf2⟩ := row3 hxa
      obtain ⟨d0, d1, d2, df0, df1, df2⟩ := row3 hxb
      clear hxa hxb
      go_simp
      try with_reducible rfl
    try simp only [Act.put, List.setIfInBounds_toArray, List.set_cons_zero, List.set_cons_succ]
    refine wpAnyH_tk 2 _ ?_ rfl rfl (by kernel_rfl) (fun _ _ _ h => h) (by assumption) (Or.inl ⟨by rfl, fun z hx => ?_⟩) ?_
    rotate_left
    · obtain ⟨hxa, hxb⟩ := hx
      obtain ⟨l0, l1, l2, lf0, lf1, lf2⟩ := row3 hxa
      obtain ⟨d0, d1, d2, df0, df1, df2⟩ := row3 hxb
      clear hxa hxb
      go_simp
      try with_reducible rfl
    try simp only [Act.put, List.setIfInBounds_toArray, List.set_cons_zero, List.set_cons_succ]
    refine wpAnyH_one 3 rfl (by kernel_rfl) (fun K' hK' => ?_)
    go_simp
    go_at_call 12
    refine (judged_any ts f _ _ 2 true w5.drew HO5.out rfl hts).mono ?_
    rintro e w7 ⟨rfl, hb7⟩
    rw [HLAW.out, faultV_cells]
    have k7 : Kt (fun _ => True) w5 w7 := (Kt.drew w5).trans (Kt.below hb7)
    have hS7 : w7.heap[l]? = some (.cells #[.int .i64 (f.1 : Int), .int .i64 0, .int .i64 (f.2 : Int)] 27) ∧ w7.heap[dd]? = some (.cells #[.int .i64 (F.1 : Int), .int .i64 0, .int .i64 (F.2 : Int)] 27) := ⟨k7 _ _ _ HL5.out trivial, k7 _ _ _ HD5.out trivial⟩
    have hd7 := hS7.2
    have HD7 := Lib.hid hd7
    have HO7 := Lib.hid (k7.own trivial HO5.out)
    have HF7 := Lib.hid (k7 _ _ _ HF5.out trivial)
    have HB7 := Lib.hid (HB5.out.trans ((drew_below w5 _).trans (hb7.mono HB5.out.size)))
    clear hS hb7 k7
    refine hK' _ _ hS7 ?_
    clear hK' K'
    try simp only [Act.put, List.setIfInBounds_toArray, List.set_cons_zero, List.set_cons_succ]
    refine wpAnyH_one 4 rfl (by kernel_rfl) (fun K' hK' => ?_)
    go_simp
    refine hK' _ _ hS7 ?_
    clear hK' K'
    try simp only [Act.put, List.setIfInBounds_toArray, List.set_cons_zero, List.set_cons_succ]
    refine wpAnyH_done (by kernel_rfl) ?_ _
    clear hS7
    obtain ⟨d0, d1, d2, df0, df1, df2⟩ := row3 hd7
    obtain ⟨y0, y1, y2, yf0, yf1, yf2⟩ := row3 HF7.out
    have hn1 : ¬ dd = w.heap.size := by have := HCZ.out; have := HS4.out; have := HS3.out; have := HS2.out; have := HZ1.out; omega
    have HBZ : Hid (Below w.heap.size w (((w7.setCell ⟨w.heap.size, 0, none⟩ (.int .i64 (F.1 : Int))).setCell ⟨w.heap.size, 1, none⟩ (.int .i64 0)).setCell ⟨w.heap.size, 2, none⟩ (.int .i64 (F.2 : Int))).drew) := Lib.hid ((((HB7.out.setCell (p := ⟨w.heap.size, 0, none⟩) (by simp) _).setCell (p := ⟨w.heap.size, 1, none⟩) (by simp) _).setCell (p := ⟨w.heap.size, 2, none⟩) (by simp) _)).drew
    have HFZ : Hid ((((w7.setCell ⟨w.heap.size, 0, none⟩ (.int .i64 (F.1 : Int))).setCell ⟨w.heap.size, 1, none⟩ (.int .i64 0)).setCell ⟨w.heap.size, 2, none⟩ (.int .i64 (F.2 : Int))).drew.heap[w.heap.size]? = some (.cells #[.int .i64 (F.1 : Int), .int .i64 0, .int .i64 (F.2 : Int)] 27)) := Lib.hid (by rw [drew_heap]; exact tri_set HF7.out)
    clear hd7
    go_upto_region 8 with fail
    go_region
    all_goals
      go_wp2
      refine bodyPost_ret (results_three rfl _ _ (.slice none 0 0) (.bool true) w.heap.size 27 #[.int .i64 (F.1 : Int), .int .i64 0, .int .i64 (F.2 : Int)] (0, 0) _ rfl rfl rfl HFZ.out Tryz.underlying27 rfl Tryz.size25) rfl ?_
      exact ⟨⟨none, 0, 0, F.1, F.2, rfl⟩, HBZ.out⟩
  | ok x =>
    obtain ⟨sl, he, hv⟩ := he
    subst he
    rw [faultV_cells]
    have HLAW : Hid (Gr.J f true (beginN 2) 0 0 0 ts = (0, 0)) := Lib.hid hlaw
    have hrd := Gr.query_rd hres rfl HSH.out.1 HSH.out.2
    have HRV := Lib.hid hrd.v
    have hlen : (Gr.flatBody x ++ [Gr.mkE 8, Gr.mkE 0]).length ≤ 70000 := by rw [← hrd.at.1]; exact hts
    have HFU := Lib.hid (Gr.query_full hres _ rfl)
    obtain ⟨sa, sc, rfl⟩ := hv.form
    obtain ⟨ln, hln⟩ : ∃ ln, ln = x.length := ⟨_, rfl⟩
    rw [← hln] at hv ⊢
    have HLN := Lib.hid hln
    have HV4 := Lib.hid hv
    clear hres hlaw hrd hv hln
    go_upto_region 5 with fail
    try simp only [show (((0 : Nat) : Int)) = 0 from rfl]
    obtain ⟨w5, hw5⟩ : ∃ w5, w5 = w4.alloc (.cells #[.int .i64 0, .int .i64 0, .int .i64 0] 27) := ⟨_, rfl⟩
    rw [← hw5]
    have k5 : Kt (fun _ => True) w4 w5 := by rw [hw5]; exact Kt.alloc w4 _
    have HD5 : Hid (w5.heap[w4.heap.size]? = some (.cells #[.int .i64 0, .int .i64 0, .int .i64 0] 27)) := Lib.hid (by rw [hw5]; exact heap_alloc_new _ _)
    have HB5 : Hid (Below w.heap.size w w5) := Lib.hid (by rw [hw5]; exact HB4.out.alloc HB4.out.size _)
    have HS5 : Hid (w5.heap.size = w4.heap.size + 1) := Lib.hid (by rw [hw5]; simp)
    obtain ⟨dd, hd0⟩ : ∃ dd, dd = w4.heap.size := ⟨_, rfl⟩
    rw [← hd0] at HD5 ⊢
    have HCZ := Lib.hid (show dd = w4.heap.size from hd0)
    have HL5 := Lib.hid (k5 _ _ _ HL4.out trivial)
    have HO5 := Lib.hid (k5.own trivial HO4.out)
    have HF5 := Lib.hid (k5 _ _ _ HF4.out trivial)
    have HV5 := Lib.hid (LitsV.kt HV4.out k5 trivial trivial)
    clear hw5 k5 hd0
    have hne := fault_ne 0 0
    go_upto_region 5 with fail
    refine wp_region_H (fun z => z.heap[l]? = some (.cells #[.int .i64 (f.1 : Int), .int .i64 0, .int .i64 (f.2 : Int)] 27) ∧ z.heap[dd]? = some (.cells #[.int .i64 0, .int .i64 0, .int .i64 0] 27)) (by kernel_rfl) ?_
    have hS : w5.drew.heap[l]? = some (.cells #[.int .i64 (f.1 : Int), .int .i64 0, .int .i64 (f.2 : Int)] 27) ∧ w5.drew.heap[dd]? = some (.cells #[.int .i64 0, .int .i64 0, .int .i64 0] 27) := ⟨HL5.out, HD5.out⟩
    refine wpAnyH_tk 0 _ ?_ rfl rfl (by kernel_rfl) (fun _ _ _ h => h) (by assumption) (Or.inl ⟨by rfl, fun z hx => ?_⟩) ?_
    rotate_left
    · obtain ⟨hxa, hxb⟩ := hx
      obtain ⟨l0, l1, l2, lf0, lf1, lf2⟩ := row3 hxa
      obtain ⟨d0, d1, d2, df0, df1, df2⟩ := row3 hxb
      clear hxa hxb
      go_simp
      try with_reducible rfl
    try simp only [Act.put, List.setIfInBounds_toArray, List.set_cons_zero, List.set_cons_succ]
    refine wpAnyH_tk 1 _ ?_ rfl rfl (by kernel_rfl) (fun _ _ _ h => h) (by assumption) (Or.inl ⟨by rfl, fun z hx => ?_⟩) ?_
    rotate_left
    · obtain ⟨hxa, hxb⟩ := hx
      obtain ⟨l0, l1, l2, lf0, lf1, lf2⟩ := row3 hxa
      obtain ⟨d0, d1, d2, df0, df1, df2⟩ := row3 hxb
      clear hxa hxb
      go_simp
      try with_reducible rfl
    try simp only [Act.put, List.setIfInBounds_toArray, List.set_cons_zero, List.set_cons_succ]
    refine wpAnyH_tk 2 _ ?_ rfl rfl (by kernel_rfl) (fun _ _ _ h => h) (by assumption) (Or.inl ⟨by rfl, fun z hx => ?_⟩) ?_
    rotate_left
    · obtain ⟨hxa, hxb⟩ := hx
      obtain ⟨l0, l1, l2, lf0, lf1, lf2⟩ := row3 hxa
      obtain ⟨d0, d1, d2, df0, df1, df2⟩ := row3 hxb
      clear hxa hxb
      go_simp
      try with_reducible rfl
    try simp only [Act.put, List.setIfInBounds_toArray, List.set_cons_zero, List.set_cons_succ]
    refine wpAnyH_one 3 rfl (by kernel_rfl) (fun K' hK' => ?_)
    go_simp
    go_at_call 12
    refine (judged_any ts f _ _ 2 true w5.drew HO5.out rfl hts).mono ?_
    rintro e w7 ⟨rfl, hb7⟩
    rw [HLAW.out, faultV_cells]
    have k7 : Kt (fun _ => True) w5 w7 := (Kt.drew w5).trans (Kt.below hb7)
    have hS7 : w7.heap[l]? = some (.cells #[.int .i64 (f.1 : Int), .int .i64 0, .int .i64 (f.2 : Int)] 27) ∧ w7.heap[dd]? = some (.cells #[.int .i64 0, .int .i64 0, .int .i64 0] 27) := ⟨k7 _ _ _ HL5.out trivial, k7 _ _ _ HD5.out trivial⟩
    have hd7 := hS7.2
    have HD7 := Lib.hid hd7
    have HO7 := Lib.hid (k7.own trivial HO5.out)
    have HF7 := Lib.hid (k7 _ _ _ HF5.out trivial)
    have HB7 := Lib.hid (HB5.out.trans ((drew_below w5 _).trans (hb7.mono HB5.out.size)))
    have HV7 := Lib.hid (LitsV.kt HV5.out k7 trivial trivial)
    clear hS hb7 k7
    try simp only [show (((0 : Nat) : Int)) = 0 from rfl]
    refine hK' _ _ hS7 ?_
    clear hK' K'
    try simp only [Act.put, List.setIfInBounds_toArray, List.set_cons_zero, List.set_cons_succ]
    refine wpAnyH_one 4 rfl (by kernel_rfl) (fun K' hK' => ?_)
    go_simp
    refine hK' _ _ hS7 ?_
    clear hK' K'
    try simp only [Act.put, List.setIfInBounds_toArray, List.set_cons_zero, List.set_cons_succ]
    refine wpAnyH_done (by kernel_rfl) ?_ _
    clear hS7
    obtain ⟨d0, d1, d2, df0, df1, df2⟩ := row3 hd7
    obtain ⟨y0, y1, y2, yf0, yf1, yf2⟩ := row3 HF7.out
    have hn1 : ¬ dd = w.heap.size := by have := HCZ.out; have := HS4.out; have := HS3.out; have := HS2.out; have := HZ1.out; omega
    have hbl : (Gr.flatBody x).length ≤ 70000 := by simp only [List.length_append] at hlen; omega
    have hbx : x.length ≤ 70000 := Nat.le_trans (lits_few x) hbl
    go_wp2_with fail
    refine (flatBody_any x (.slice sa ln sc) _ _ HFU.out HV7.out hbl hbx).mono ?_
    rintro e w8 ⟨u8, rfl, ho8, hb8⟩
    obtain ⟨es, hes⟩ : ∃ es, es = Gr.flatBody x := ⟨_, rfl⟩
    rw [← hes] at ho8 hbl
    have HES := Lib.hid hes
    obtain ⟨oa, oc, rfl⟩ := ho8.form
    clear hes
    have k8 : Kt (fun _ => True) w7 w8 := Kt.below hb8
    have HD8 := Lib.hid (k8 _ _ _ HD7.out trivial)
    have HF8 := Lib.hid (k8 _ _ _ HF7.out trivial)
    have HO8 := Lib.hid (k8.own trivial HO7.out)
    have HE8 := Lib.hid ho8
    have HB8 := Lib.hid (HB7.out.trans (hb8.mono HB7.out.size))
    have HZ8 := Lib.hid HB7.out.size
    have HNE := Lib.hid (own_ne HO7.out ho8)
    clear k8 hb8 ho8 d0 d1 d2 df0 df1 df2 y0 y1 y2 yf0 yf1 yf2 hd7
    go_wp2_with fail
    refine (mark_any 8 _).mono ?_
    rintro e w9 ⟨rfl, hb9⟩
    simp only [markV]
    have k9 : Kt (fun _ => True) w8 w9 := Kt.below hb9
    have HD9 := Lib.hid (k9 _ _ _ HD8.out trivial)
    have HF9 := Lib.hid (k9 _ _ _ HF8.out trivial)
    have HO9 := Lib.hid (k9.own trivial HO8.out)
    have HE9 := Lib.hid (HE8.out.kt k9 trivial)
    have HB9 := Lib.hid (HB8.out.trans (hb9.mono HB8.out.size))
    clear k9 hb9
    go_wp2_with fail
    refine (mark_any 0 _).mono ?_
    rintro e wa ⟨rfl, hba⟩
    simp only [markV]
    have ka : Kt (fun _ => True) w9 wa := Kt.below hba
    have HDa := Lib.hid (ka _ _ _ HD9.out trivial)
    have HFa := Lib.hid (ka _ _ _ HF9.out trivial)
    have HOa := Lib.hid (ka.own trivial HO9.out)
    have HEa := Lib.hid (OutV.mono (HE9.out.kt ka trivial) HZ8.out)
    have HBa := Lib.hid (HB9.out.trans (hba.mono HB9.out.size))
    clear ka hba
    go_upto_region 11 with (at_builtin; refine wpList_append_own _ rfl _ _ 36 rfl w.heap.size 62 i62 (.agg #[.int .i64 0, .string noS, .int .i64 0, .int .i64 0, .int .i64 0, .int .i64 0]) 6 56 Tryz.underlying36 bi b0 b1 b2 rfl (by decide) (.slice oa es.length oc) es.length (List.flatMap exV es) rfl (World.ownsRow.alloc HEa.out _) ⟨wa.heap.size, 0, none⟩ 2 2 (List.flatMap exV [Gr.mkE 8, Gr.mkE 0]) rfl rfl (World.news_of_block (cs := (List.flatMap exV [Gr.mkE 8, Gr.mkE 0]).toArray) (t := 62) (fr := (0, 0)) (heap_alloc_new wa _)) (ex_one _) (by unfold maxLen; omega) (by omega) (by have := HBa.out.size; simp; omega) ?_; intro vb wb hownb hgrowb hnlb; have HEb := Lib.hid (OutV.more (fs := [Gr.mkE 8, Gr.mkE 0]) hownb); have HBb := Lib.hid (grown_below (HBa.out.alloc HBa.out.size _) hgrowb (World.ownsRow.alloc HEa.out _) (Nat.le_refl _)); have kb : Kt (fun t => t ≠ 62) wa wb := (Kt.alloc wa _).trans (Kt.grown hgrowb (World.ownsRow.alloc HEa.out _) (by simp)); have HDb := Lib.hid (kb _ _ _ HDa.out (by decide)); have HFb := Lib.hid (kb _ _ _ HFa.out (by decide)); have HOb := Lib.hid (toks_stand HOa.out HEa.out hgrowb HNE.out); obtain ⟨gb, cb, rfl⟩ := Joins.ownsRow_form hownb (by omega); clear hownb hgrowb hnlb kb)
    obtain ⟨fs, hfs⟩ : ∃ fs, fs = es ++ [Gr.mkE 8, Gr.mkE 0] := ⟨_, rfl⟩
    have HFS : Hid (fs = Gr.flatBody x ++ [Gr.mkE 8, Gr.mkE 0]) := Lib.hid (by rw [hfs, HES.out])
    have HFN : Hid (fs.length = es.length + 2) := Lib.hid (by rw [hfs]; simp)
    rw [← hfs] at HEb
    rw [← HFN.out] at HEb ⊢
    clear hfs
    refine wp_region_H (fun z => z.heap[dd]? = some (.cells #[.int .i64 0, .int .i64 0, .int .i64 0] 27)) (by kernel_rfl) ?_
    have hS : wb.drew.heap[dd]? = some (.cells #[.int .i64 0, .int .i64 0, .int .i64 0] 27) := HDb.out
    refine wpAnyH_tk 0 _ ?_ rfl rfl (by kernel_rfl) (fun _ _ _ h => h) (by assumption) (Or.inl ⟨by rfl, fun z hx => ?_⟩) ?_
    rotate_left
    · obtain ⟨d0, d1, d2, df0, df1, df2⟩ := row3 hx
      clear hx
      go_simp
      try with_reducible rfl
    try simp only [Act.put, List.setIfInBounds_toArray, List.set_cons_zero, List.set_cons_succ]
    refine wpAnyH_tk 1 _ ?_ rfl rfl (by kernel_rfl) (fun _ _ _ h => h) (by assumption) (Or.inl ⟨by rfl, fun z hx => ?_⟩) ?_
    rotate_left
    · obtain ⟨d0, d1, d2, df0, df1, df2⟩ := row3 hx
      clear hx
      go_simp
      try with_reducible rfl
    try simp only [Act.put, List.setIfInBounds_toArray, List.set_cons_zero, List.set_cons_succ]
    refine wpAnyH_tk 2 _ ?_ rfl rfl (by kernel_rfl) (fun _ _ _ h => h) (by assumption) (Or.inl ⟨by rfl, fun z hx => ?_⟩) ?_
    rotate_left
    · obtain ⟨d0, d1, d2, df0, df1, df2⟩ := row3 hx
      clear hx
      go_simp
      try with_reducible rfl
    try simp only [Act.put, List.setIfInBounds_toArray, List.set_cons_zero, List.set_cons_succ]
    refine wpAnyH_tk 3 _ ?_ rfl rfl (by kernel_rfl) (fun _ _ _ h => h) (by assumption) (Or.inl ⟨by rfl, fun z hx => ?_⟩) ?_
    rotate_left
    · obtain ⟨d0, d1, d2, df0, df1, df2⟩ := row3 hx
      clear hx
      go_simp
      try with_reducible rfl
    try simp only [Act.put, List.setIfInBounds_toArray, List.set_cons_zero, List.set_cons_succ]
    refine wpAnyH_tk 4 _ ?_ rfl rfl (by kernel_rfl) (fun _ _ _ h => h) (by assumption) (Or.inl ⟨by rfl, fun z hx => ?_⟩) ?_
    rotate_left
    · obtain ⟨d0, d1, d2, df0, df1, df2⟩ := row3 hx
      clear hx
      go_simp
      try with_reducible rfl
    try simp only [Act.put, List.setIfInBounds_toArray, List.set_cons_zero, List.set_cons_succ]
    refine wpAnyH_tk 5 _ ?_ rfl rfl (by kernel_rfl) (fun _ _ _ h => h) (by assumption) (Or.inl ⟨by rfl, fun z hx => ?_⟩) ?_
    rotate_left
    · obtain ⟨d0, d1, d2, df0, df1, df2⟩ := row3 hx
      clear hx
      go_simp
      try with_reducible rfl
    try simp only [Act.put, List.setIfInBounds_toArray, List.set_cons_zero, List.set_cons_succ]
    refine wpAnyH_one 6 rfl (by kernel_rfl) (fun K' hK' => ?_)
    rw [if_pos (by rfl)]
    go_simp
    go_at_call 15
    refine (readsAs_any ts (fs.map Gr.ev) _ _ _ _ wb.drew HOb.out (HEb.out.ev) (by rw [HFS.out]; exact HRV.out) hts).mono ?_
    rintro e wc ⟨rfl, hbc⟩
    have kc : Kt (fun _ => True) wb wc := (Kt.drew _).trans (Kt.below hbc)
    have HFc := Lib.hid (kc _ _ _ HFb.out trivial)
    have hSc : wc.heap[dd]? = some (.cells #[.int .i64 0, .int .i64 0, .int .i64 0] 27) := kc _ _ _ HDb.out trivial
    have HBc := Lib.hid (HBb.out.trans ((drew_below _ _).trans (hbc.mono HBb.out.size)))
    clear kc hbc hS
    refine hK' _ _ hSc ?_
    clear hK' K'
    try simp only [Act.put, List.setIfInBounds_toArray, List.set_cons_zero, List.set_cons_succ]
    refine wpAnyH_tk 7 _ ?_ rfl rfl (by kernel_rfl) (fun _ _ _ h => h) (by assumption) (Or.inl ⟨by rfl, fun z hx => ?_⟩) ?_
    rotate_left
    · obtain ⟨d0, d1, d2, df0, df1, df2⟩ := row3 hx
      clear hx
      go_simp
      try with_reducible rfl
    try simp only [Act.put, List.setIfInBounds_toArray, List.set_cons_zero, List.set_cons_succ]
    refine wpAnyH_one 8 rfl (by kernel_rfl) (fun K' hK' => ?_)
    go_simp
    refine hK' _ _ hSc ?_
    clear hK' K'
    try simp only [Act.put, List.setIfInBounds_toArray, List.set_cons_zero, List.set_cons_succ]
    obtain ⟨we, hwe⟩ : ∃ we, we = wc := ⟨_, rfl⟩
    rw [← hwe] at HFc hSc HBc ⊢
    have HFe := HFc
    have hSe := hSc
    have HBe := HBc
    clear hwe hSc
    obtain ⟨y0, y1, y2, yf0, yf1, yf2⟩ := row3 HFe.out
    refine wpAnyH_one 9 rfl (by kernel_rfl) (fun K' hK' => ?_)
    go_simp
    obtain ⟨wf, hwf⟩ : ∃ wf, wf = ((we.setCell ⟨w.heap.size, 0, none⟩ (.int .i64 0)).setCell ⟨w.heap.size, 1, none⟩ (.int .i64 0)).setCell ⟨w.heap.size, 2, none⟩ (.int .i64 0) := ⟨_, rfl⟩
    rw [← hwf]
    have HFf : Hid (wf.heap[w.heap.size]? = some (.cells #[.int .i64 0, .int .i64 0, .int .i64 0] 27)) := Lib.hid (by rw [hwf]; exact tri_set HFe.out)
    have KT2 : Kt (fun t => t ≠ 27) we wf := by rw [hwf]; exact tri_kt HFe.out (by simp)
    have hSf : wf.heap[dd]? = some (.cells #[.int .i64 0, .int .i64 0, .int .i64 0] 27) := by rw [hwf, tri_oth hn1]; exact hSe
    have HBf : Hid (Below w.heap.size w wf) := Lib.hid (by rw [hwf]; exact ((HBe.out.setCell (p := ⟨w.heap.size, 0, none⟩) (by simp) _).setCell (p := ⟨w.heap.size, 1, none⟩) (by simp) _).setCell (p := ⟨w.heap.size, 2, none⟩) (by simp) _)
    clear hwf KT2 hSe y0 y1 y2 yf0 yf1 yf2
    refine hK' _ _ hSf ?_
    clear hK' K'
    try simp only [Act.put, List.setIfInBounds_toArray, List.set_cons_zero, List.set_cons_succ]
    refine wpAnyH_one 10 rfl (by kernel_rfl) (fun K' hK' => ?_)
    go_simp
    refine hK' _ _ hSf ?_
    clear hK' K'
    try simp only [Act.put, List.setIfInBounds_toArray, List.set_cons_zero, List.set_cons_succ]
    refine wpAnyH_done (by kernel_rfl) ?_ _
    go_wp2
    refine bodyPost_ret (results_three rfl _ _ (.slice sa ln sc) (.bool true) w.heap.size 27 #[.int .i64 0, .int .i64 0, .int .i64 0] (0, 0) _ rfl rfl rfl HFf.out Tryz.underlying27 rfl Tryz.size25) rfl ?_
    exact ⟨⟨_, _, _, 0, 0, rfl⟩, HBf.out⟩
end Go.Proofs.YtncdjkdpoinfaaaGreatDoor
