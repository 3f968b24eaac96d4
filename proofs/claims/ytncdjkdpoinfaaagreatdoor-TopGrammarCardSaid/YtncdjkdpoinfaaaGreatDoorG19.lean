/-
  Texts of this seat, one behind the other: W44, K10. Conditions: those that each of them states.
-/
import Derived.Test.YtncdjkdpoinfaaaGreatDoorG18
import Derived.Test.YtncdjkdpoinfaaaGreatDoorG3
import Derived.Laws.OwnMore
/-
  The walks of parse.Program, Facts, Query, Fact. Conditions: the variables hold what the program's text lays.
-/
namespace Go.Proofs.YtncdjkdpoinfaaaGreatDoor
open Go.RowKit Go.Shelf Pl

theorem Tryz.size24 : (Tryz.prog.info? 24).map (·.size) = some 1 := by kernel_rfl
theorem Tryz.size46 : (Tryz.prog.info? 46).map (·.size) = some 2 := by kernel_rfl
theorem duo_set {w : World} {R : Nat} {T : TypeId} {x0 x1 u0 u1 : Value} (h : w.heap[R]? = some (.cells #[u0, u1] T)) : ((w.setCell ⟨R, 0, none⟩ x0).setCell ⟨R, 1, none⟩ x1).heap[R]? = some (.cells #[x0, x1] T) := by
  simp [World.setCell, Array.getElem?_modify, h]

set_option maxRecDepth 100000 in
set_option maxHeartbeats 6400000 in
theorem parse_prog (s : ByteArray) (B : Nat) (ts : List Tk) (f : Gr.Flt) (w : World) (hs : s.size ≤ 65536) (hSc : Sc (L s) 0 ts f) (hG : Gl B w) (hts : ts.length ≤ 70000) :
    Calls Tryz.prog 4 #[.string s] w fun e w' => ∃ res : Except Gr.Flt (List Gr.Cls), Gr.ProgR f 0 ts res ∧ Below w.heap.size w w' ∧ match res with
      | .error F => e = .returned (.tuple #[.agg #[.slice none 0 0], FaultV F.1 F.2]) ∧ F.1 ≠ 0
      | .ok x => ∃ sl, e = .returned (.tuple #[.agg #[sl], FaultV 0 0]) ∧ ProgV w.heap.size x w' sl := by
  have hmf : ∀ (fn : Fn) (first cap : Array Value) (w : World), (Instr.makeFunc fn first cap).run Tryz.prog w = .ok (.func fn first cap) w := fun _ _ _ _ => rfl
  have HEN := Lib.hid (Gr.sc_ends hSc)
  have HSC := Lib.hid hSc
  obtain ⟨w1, hw1⟩ : ∃ w1, w1 = ((w.alloc (.cells #[.slice none 0 0] 24)).alloc (.cells #[.int .i64 0, .int .i64 0, .int .i64 0] 27)).alloc (.cells #[.slice none 0 0] 24) := ⟨_, rfl⟩
  have H1 : Hid (Below w.heap.size w w1) := Lib.hid (by rw [hw1]; exact ((up_alloc _ _).alloc (by simp) _).alloc (by simp; omega) _)
  have HZ1 : Hid (w1.heap.size = w.heap.size + 3) := Lib.hid (by rw [hw1]; simp)
  have HP1 : Hid (w1.heap[w.heap.size]? = some (.cells #[.slice none 0 0] 24)) := Lib.hid (by rw [hw1, Below.heap_alloc _ _ _ (by simp; omega), Below.heap_alloc _ _ _ (by simp)]; exact heap_alloc_new _ _)
  have HF1 : Hid (w1.heap[w.heap.size + 1]? = some (.cells #[.int .i64 0, .int .i64 0, .int .i64 0] 27)) := Lib.hid (by rw [hw1, Below.heap_alloc _ _ _ (by simp)]; have := heap_alloc_new (w.alloc (.cells #[.slice none 0 0] 24)) (.cells #[.int .i64 0, .int .i64 0, .int .i64 0] 27); simpa using this)
  have HC1 : Hid (w1.heap[w.heap.size + 2]? = some (.cells #[.slice none 0 0] 24)) := Lib.hid (by rw [hw1]; have := heap_alloc_new ((w.alloc (.cells #[.slice none 0 0] 24)).alloc (.cells #[.int .i64 0, .int .i64 0, .int .i64 0] 27)) (.cells #[.slice none 0 0] 24); simpa using this)
  have HG1 := Lib.hid (hG.below (H1.out.mono hG.lt))
  have HW1 := Lib.hid hw1
  clear hw1 hSc hG
  go_enter Tryz.func4, Tryz.ntmps4
  go_upto_region 2 with fail
  rw [← HW1.out]
  go_wp2_with fail
  refine (guarded_prog s B (w.heap.size + 2) ts f w1 hs HSC.out HG1.out hts HC1.out).mono ?_
  rintro e w2 ⟨res, hres, ho, he⟩
  have HRES := Lib.hid hres
  have HF2 : Hid (w2.heap[(w.heap.size + 1)]? = some (.cells #[.int .i64 0, .int .i64 0, .int .i64 0] 27)) := Lib.hid (by rw [ho.block _ (by have := HZ1.out; omega) (by omega)]; exact HF1.out)
  have HP2 : Hid (w2.heap[w.heap.size]? = some (.cells #[.slice none 0 0] 24)) := Lib.hid (by rw [ho.block _ (by have := HZ1.out; omega) (by omega)]; exact HP1.out)
  have H2 : Hid (Below w.heap.size w w2) := Lib.hid (H1.out.trans ⟨ho.os, ho.tape, ho.output, Nat.le_trans (by have := HZ1.out; omega) ho.size, fun k hk => ho.block k (by have := HZ1.out; omega) (by omega)⟩)
  have HZ2 := Lib.hid ho.size
  clear hres ho
  cases res with
  | error F =>
    have he : e = .returned (FaultV F.1 F.2) := he
    subst he
    rw [faultV_cells]
    have HNE := Lib.hid (Gr.prog_code HRES.out HEN.out _ rfl)
    have ec : ((F.1 : Int) != 0) = true := by have := HNE.out; simp; omega
    go_upto_region 3 with fail
    obtain ⟨w3, hw3⟩ : ∃ w3, w3 = w2.alloc (.cells #[.int .i64 (F.1 : Int), .int .i64 0, .int .i64 (F.2 : Int)] 27) := ⟨_, rfl⟩
    rw [← hw3]
    have k3 : Kt (fun _ => True) w2 w3 := by rw [hw3]; exact Kt.alloc _ _
    have h3 : w3.heap[w2.heap.size]? = some (.cells #[.int .i64 (F.1 : Int), .int .i64 0, .int .i64 (F.2 : Int)] 27) := by rw [hw3]; exact heap_alloc_new _ _
    have hf3 := k3 _ _ _ HF2.out trivial
    have HF3 := Lib.hid hf3
    have H3 : Hid (Below w.heap.size w w3) := Lib.hid (by rw [hw3]; exact H2.out.alloc H2.out.size _)
    obtain ⟨b, hb0⟩ : ∃ b, b = w2.heap.size := ⟨_, rfl⟩
    rw [← hb0] at h3 ⊢
    have hne1 : ¬ b = w.heap.size := by have := HZ1.out; have := HZ2.out; omega
    have hne2 : ¬ b = w.heap.size + 1 := by have := HZ1.out; have := HZ2.out; omega
    have HZZ : Hid (w.heap.size ≤ w1.heap.size) := Lib.hid (by have := HZ1.out; omega)
    obtain ⟨x0, x1, x2, xf0, xf1, xf2⟩ := row3 h3
    obtain ⟨y0, y1, y2, yf0, yf1, yf2⟩ := row3 hf3
    have hp3 := k3 _ _ _ HP2.out trivial
    have HP3 := Lib.hid hp3
    obtain ⟨z0, zf0⟩ := row1c hp3
    have KT1 : Kt (fun t => t ≠ 24) w3 (w3.setCell ⟨w.heap.size, 0, none⟩ (.slice none 0 0)) := Kt.set (p := ⟨w.heap.size, 0, none⟩) HP3.out (by simp)
    have hf4 := KT1 _ _ _ HF3.out (by decide)
    have hh2 := tri_set (x0 := .int .i64 (F.1 : Int)) (x1 := .int .i64 0) (x2 := .int .i64 (F.2 : Int)) hf4
    have KT2 : Kt (fun t => t ≠ 27) (w3.setCell ⟨w.heap.size, 0, none⟩ (.slice none 0 0)) ((((w3.setCell ⟨w.heap.size, 0, none⟩ (.slice none 0 0)).setCell ⟨w.heap.size + 1, 0, none⟩ (.int .i64 (F.1 : Int))).setCell ⟨w.heap.size + 1, 1, none⟩ (.int .i64 0)).setCell ⟨w.heap.size + 1, 2, none⟩ (.int .i64 (F.2 : Int))) := tri_kt hf4 (by simp)
    have HP4 : Hid (((((w3.setCell ⟨w.heap.size, 0, none⟩ (.slice none 0 0)).setCell ⟨w.heap.size + 1, 0, none⟩ (.int .i64 (F.1 : Int))).setCell ⟨w.heap.size + 1, 1, none⟩ (.int .i64 0)).setCell ⟨w.heap.size + 1, 2, none⟩ (.int .i64 (F.2 : Int))).drew.heap[w.heap.size]? = some (.cells #[.slice none 0 0] 24)) := Lib.hid (by rw [drew_heap]; exact KT2 _ _ _ (one_setc HP3.out) (by decide))
    have HF4 : Hid (((((w3.setCell ⟨w.heap.size, 0, none⟩ (.slice none 0 0)).setCell ⟨w.heap.size + 1, 0, none⟩ (.int .i64 (F.1 : Int))).setCell ⟨w.heap.size + 1, 1, none⟩ (.int .i64 0)).setCell ⟨w.heap.size + 1, 2, none⟩ (.int .i64 (F.2 : Int))).drew.heap[(w.heap.size + 1)]? = some (.cells #[.int .i64 (F.1 : Int), .int .i64 0, .int .i64 (F.2 : Int)] 27)) := Lib.hid (by rw [drew_heap]; exact hh2)
    have KT : Kt (fun t => t ≠ 24 ∧ t ≠ 27) w3 ((((w3.setCell ⟨w.heap.size, 0, none⟩ (.slice none 0 0)).setCell ⟨w.heap.size + 1, 0, none⟩ (.int .i64 (F.1 : Int))).setCell ⟨w.heap.size + 1, 1, none⟩ (.int .i64 0)).setCell ⟨w.heap.size + 1, 2, none⟩ (.int .i64 (F.2 : Int))).drew := ((KT1.weak (fun t h => h.1)).trans (KT2.weak (fun t h => h.2))).trans (Kt.drew _)
    have HBZ : Hid (Below w.heap.size w ((((w3.setCell ⟨w.heap.size, 0, none⟩ (.slice none 0 0)).setCell ⟨w.heap.size + 1, 0, none⟩ (.int .i64 (F.1 : Int))).setCell ⟨w.heap.size + 1, 1, none⟩ (.int .i64 0)).setCell ⟨w.heap.size + 1, 2, none⟩ (.int .i64 (F.2 : Int))).drew) := Lib.hid ((Below.setCell (Below.setCell (Below.setCell (Below.setCell H3.out (p := ⟨w.heap.size, 0, none⟩) (by simp) _) (p := ⟨(w.heap.size + 1), 0, none⟩) (by simp) _) (p := ⟨(w.heap.size + 1), 1, none⟩) (by simp) _) (p := ⟨(w.heap.size + 1), 2, none⟩) (by simp) _)).drew
    clear KT k3 hw3 h3 hf3 hb0 hp3 KT1 KT2 hh2 hf4
    go_upto_region 4 with fail
    go_region
    all_goals
      go_wp2
      refine bodyPost_ret (results_two_rows rfl _ _ w.heap.size (w.heap.size + 1) 24 27 #[.slice none 0 0] #[.int .i64 (F.1 : Int), .int .i64 0, .int .i64 (F.2 : Int)] (0, 0) (0, 0) _ _ rfl HP4.out Tryz.underlying24 rfl Tryz.size24 rfl HF4.out Tryz.underlying27 rfl Tryz.size25) rfl ?_
      exact ⟨_, HRES.out, HBZ.out, rfl, HNE.out⟩
  | ok x =>
    obtain ⟨he, hgd⟩ := he
    have he : e = .returned (FaultV 0 0) := he
    subst he
    rw [faultV_cells]
    have HGD := Lib.hid hgd
    clear hgd
    obtain ⟨sl, hcc, hvv⟩ := HGD.out
    obtain ⟨sa, sc, rfl⟩ := hvv.form
    obtain ⟨ln, hln⟩ : ∃ ln, ln = x.length := ⟨_, rfl⟩
    rw [← hln] at hcc hvv
    clear hln
    go_upto_region 3 with fail
    obtain ⟨w3, hw3⟩ : ∃ w3, w3 = w2.alloc (.cells #[.int .i64 0, .int .i64 0, .int .i64 0] 27) := ⟨_, rfl⟩
    try simp only [show (((0 : Nat) : Int)) = 0 from rfl]
    rw [← hw3]
    have k3 : Kt (fun _ => True) w2 w3 := by rw [hw3]; exact Kt.alloc _ _
    have h3 : w3.heap[w2.heap.size]? = some (.cells #[.int .i64 0, .int .i64 0, .int .i64 0] 27) := by rw [hw3]; exact heap_alloc_new _ _
    have hf3 := k3 _ _ _ HF2.out trivial
    have HF3 := Lib.hid hf3
    have H3 : Hid (Below w.heap.size w w3) := Lib.hid (by rw [hw3]; exact H2.out.alloc H2.out.size _)
    obtain ⟨b, hb0⟩ : ∃ b, b = w2.heap.size := ⟨_, rfl⟩
    rw [← hb0] at h3 ⊢
    have hne1 : ¬ b = w.heap.size := by have := HZ1.out; have := HZ2.out; omega
    have hne2 : ¬ b = w.heap.size + 1 := by have := HZ1.out; have := HZ2.out; omega
    have HZZ : Hid (w.heap.size ≤ w1.heap.size) := Lib.hid (by have := HZ1.out; omega)
    obtain ⟨x0, x1, x2, xf0, xf1, xf2⟩ := row3 h3
    obtain ⟨y0, y1, y2, yf0, yf1, yf2⟩ := row3 hf3
    have hp3 := k3 _ _ _ HP2.out trivial
    have HP3 := Lib.hid hp3
    obtain ⟨z0, zf0⟩ := row1c hp3
    have hc3 := k3 _ _ _ hcc trivial
    obtain ⟨cc0, cf0⟩ := row1c hc3
    have HVV := Lib.hid (show ProgV w1.heap.size x w3 (.slice sa ln sc) from by exact ProgV.kt hvv k3 trivial trivial trivial)
    have KT1 : Kt (fun t => t ≠ 24) w3 (w3.setCell ⟨w.heap.size, 0, none⟩ (.slice sa ln sc)) := Kt.set (p := ⟨w.heap.size, 0, none⟩) HP3.out (by simp)
    have hf4 := KT1 _ _ _ HF3.out (by decide)
    have hh2 := tri_set (x0 := .int .i64 0) (x1 := .int .i64 0) (x2 := .int .i64 0) hf4
    have KT2 : Kt (fun t => t ≠ 27) (w3.setCell ⟨w.heap.size, 0, none⟩ (.slice sa ln sc)) ((((w3.setCell ⟨w.heap.size, 0, none⟩ (.slice sa ln sc)).setCell ⟨w.heap.size + 1, 0, none⟩ (.int .i64 0)).setCell ⟨w.heap.size + 1, 1, none⟩ (.int .i64 0)).setCell ⟨w.heap.size + 1, 2, none⟩ (.int .i64 0)) := tri_kt hf4 (by simp)
    have HP4 : Hid (((((w3.setCell ⟨w.heap.size, 0, none⟩ (.slice sa ln sc)).setCell ⟨w.heap.size + 1, 0, none⟩ (.int .i64 0)).setCell ⟨w.heap.size + 1, 1, none⟩ (.int .i64 0)).setCell ⟨w.heap.size + 1, 2, none⟩ (.int .i64 0)).drew.heap[w.heap.size]? = some (.cells #[.slice sa ln sc] 24)) := Lib.hid (by rw [drew_heap]; exact KT2 _ _ _ (one_setc HP3.out) (by decide))
    have HF4 : Hid (((((w3.setCell ⟨w.heap.size, 0, none⟩ (.slice sa ln sc)).setCell ⟨w.heap.size + 1, 0, none⟩ (.int .i64 0)).setCell ⟨w.heap.size + 1, 1, none⟩ (.int .i64 0)).setCell ⟨w.heap.size + 1, 2, none⟩ (.int .i64 0)).drew.heap[(w.heap.size + 1)]? = some (.cells #[.int .i64 0, .int .i64 0, .int .i64 0] 27)) := Lib.hid (by rw [drew_heap]; exact hh2)
    have KT : Kt (fun t => t ≠ 24 ∧ t ≠ 27) w3 ((((w3.setCell ⟨w.heap.size, 0, none⟩ (.slice sa ln sc)).setCell ⟨w.heap.size + 1, 0, none⟩ (.int .i64 0)).setCell ⟨w.heap.size + 1, 1, none⟩ (.int .i64 0)).setCell ⟨w.heap.size + 1, 2, none⟩ (.int .i64 0)).drew := ((KT1.weak (fun t h => h.1)).trans (KT2.weak (fun t h => h.2))).trans (Kt.drew _)
    have HBZ : Hid (Below w.heap.size w ((((w3.setCell ⟨w.heap.size, 0, none⟩ (.slice sa ln sc)).setCell ⟨w.heap.size + 1, 0, none⟩ (.int .i64 0)).setCell ⟨w.heap.size + 1, 1, none⟩ (.int .i64 0)).setCell ⟨w.heap.size + 1, 2, none⟩ (.int .i64 0)).drew) := Lib.hid ((Below.setCell (Below.setCell (Below.setCell (Below.setCell H3.out (p := ⟨w.heap.size, 0, none⟩) (by simp) _) (p := ⟨(w.heap.size + 1), 0, none⟩) (by simp) _) (p := ⟨(w.heap.size + 1), 1, none⟩) (by simp) _) (p := ⟨(w.heap.size + 1), 2, none⟩) (by simp) _)).drew
    have HVZ : Hid (ProgV w.heap.size x ((((w3.setCell ⟨w.heap.size, 0, none⟩ (.slice sa ln sc)).setCell ⟨w.heap.size + 1, 0, none⟩ (.int .i64 0)).setCell ⟨w.heap.size + 1, 1, none⟩ (.int .i64 0)).setCell ⟨w.heap.size + 1, 2, none⟩ (.int .i64 0)).drew (.slice sa ln sc)) := Lib.hid ((ProgV.kt HVV.out KT (by decide) (by decide) (by decide)).mono HZZ.out)
    clear KT k3 hw3 h3 hf3 hb0 hp3 KT1 KT2 hh2 hf4 hcc hvv hc3
    go_upto_region 5 with fail
    go_region
    all_goals
      go_wp2
      refine bodyPost_ret (results_two_rows rfl _ _ w.heap.size (w.heap.size + 1) 24 27 #[.slice sa ln sc] #[.int .i64 0, .int .i64 0, .int .i64 0] (0, 0) (0, 0) _ _ rfl HP4.out Tryz.underlying24 rfl Tryz.size24 rfl HF4.out Tryz.underlying27 rfl Tryz.size25) rfl ?_
      exact ⟨_, HRES.out, HBZ.out, _, rfl, HVZ.out⟩

set_option maxRecDepth 100000 in
set_option maxHeartbeats 6400000 in
theorem parse_facts (s : ByteArray) (B : Nat) (ts : List Tk) (f : Gr.Flt) (w : World) (hs : s.size ≤ 65536) (hSc : Sc (L s) 0 ts f) (hG : Gl B w) (hts : ts.length ≤ 70000) :
    Calls Tryz.prog 6 #[.string s] w fun e w' => ∃ res : Except Gr.Flt (List Gr.Atm), Gr.FactsR f 0 ts res ∧ Below w.heap.size w w' ∧ match res with
      | .error F => e = .returned (.tuple #[.slice none 0 0, FaultV F.1 F.2]) ∧ F.1 ≠ 0
      | .ok x => ∃ sl, e = .returned (.tuple #[sl, FaultV 0 0]) ∧ AtmsV w.heap.size x w' sl := by
  have hmf : ∀ (fn : Fn) (first cap : Array Value) (w : World), (Instr.makeFunc fn first cap).run Tryz.prog w = .ok (.func fn first cap) w := fun _ _ _ _ => rfl
  have HEN := Lib.hid (Gr.sc_ends hSc)
  have HSC := Lib.hid hSc
  obtain ⟨w1, hw1⟩ : ∃ w1, w1 = (w.alloc (.cells #[.int .i64 0, .int .i64 0, .int .i64 0] 27)).alloc (.cells #[.slice none 0 0] 39) := ⟨_, rfl⟩
  have H1 : Hid (Below w.heap.size w w1) := Lib.hid (by rw [hw1]; exact (up_alloc _ _).alloc (by simp) _)
  have HZ1 : Hid (w1.heap.size = w.heap.size + 2) := Lib.hid (by rw [hw1]; simp)
  have HF1 : Hid (w1.heap[w.heap.size]? = some (.cells #[.int .i64 0, .int .i64 0, .int .i64 0] 27)) := Lib.hid (by rw [hw1, Below.heap_alloc _ _ _ (by simp)]; exact heap_alloc_new _ _)
  have HC1 : Hid (w1.heap[w.heap.size + 1]? = some (.cells #[.slice none 0 0] 39)) := Lib.hid (by rw [hw1]; have := heap_alloc_new (w.alloc (.cells #[.int .i64 0, .int .i64 0, .int .i64 0] 27)) (.cells #[.slice none 0 0] 39); simpa using this)
  have HG1 := Lib.hid (hG.below (H1.out.mono hG.lt))
  have HW1 := Lib.hid hw1
  clear hw1 hSc hG
  go_enter Tryz.func6, Tryz.ntmps6
  go_upto_region 2 with fail
  rw [← HW1.out]
  go_wp2_with fail
  refine (guarded_facts s B (w.heap.size + 1) ts f w1 hs HSC.out HG1.out hts HC1.out).mono ?_
  rintro e w2 ⟨res, hres, ho, he⟩
  have HRES := Lib.hid hres
  have HF2 : Hid (w2.heap[w.heap.size]? = some (.cells #[.int .i64 0, .int .i64 0, .int .i64 0] 27)) := Lib.hid (by rw [ho.block _ (by have := HZ1.out; omega) (by omega)]; exact HF1.out)
  have H2 : Hid (Below w.heap.size w w2) := Lib.hid (H1.out.trans ⟨ho.os, ho.tape, ho.output, Nat.le_trans (by have := HZ1.out; omega) ho.size, fun k hk => ho.block k (by have := HZ1.out; omega) (by omega)⟩)
  have HZ2 := Lib.hid ho.size
  clear hres ho
  cases res with
  | error F =>
    have he : e = .returned (FaultV F.1 F.2) := he
    subst he
    rw [faultV_cells]
    have HNE := Lib.hid (Gr.facts_code HRES.out HEN.out _ rfl)
    have ec : ((F.1 : Int) != 0) = true := by have := HNE.out; simp; omega
    go_upto_region 3 with fail
    obtain ⟨w3, hw3⟩ : ∃ w3, w3 = w2.alloc (.cells #[.int .i64 (F.1 : Int), .int .i64 0, .int .i64 (F.2 : Int)] 27) := ⟨_, rfl⟩
    rw [← hw3]
    have k3 : Kt (fun _ => True) w2 w3 := by rw [hw3]; exact Kt.alloc _ _
    have h3 : w3.heap[w2.heap.size]? = some (.cells #[.int .i64 (F.1 : Int), .int .i64 0, .int .i64 (F.2 : Int)] 27) := by rw [hw3]; exact heap_alloc_new _ _
    have hf3 := k3 _ _ _ HF2.out trivial
    have HF3 := Lib.hid hf3
    have H3 : Hid (Below w.heap.size w w3) := Lib.hid (by rw [hw3]; exact H2.out.alloc H2.out.size _)
    obtain ⟨b, hb0⟩ : ∃ b, b = w2.heap.size := ⟨_, rfl⟩
    rw [← hb0] at h3 ⊢
    have hne1 : ¬ b = w.heap.size := by have := HZ1.out; have := HZ2.out; omega
    have hne2 : ¬ b = w.heap.size + 1 := by have := HZ1.out; have := HZ2.out; omega
    have HZZ : Hid (w.heap.size ≤ w1.heap.size) := Lib.hid (by have := HZ1.out; omega)
    obtain ⟨x0, x1, x2, xf0, xf1, xf2⟩ := row3 h3
    obtain ⟨y0, y1, y2, yf0, yf1, yf2⟩ := row3 hf3
    have HF4 : Hid ((((w3.setCell ⟨w.heap.size, 0, none⟩ (.int .i64 (F.1 : Int))).setCell ⟨w.heap.size, 1, none⟩ (.int .i64 0)).setCell ⟨w.heap.size, 2, none⟩ (.int .i64 (F.2 : Int))).drew.heap[w.heap.size]? = some (.cells #[.int .i64 (F.1 : Int), .int .i64 0, .int .i64 (F.2 : Int)] 27)) := Lib.hid (by rw [drew_heap]; exact tri_set (x0 := .int .i64 (F.1 : Int)) (x1 := .int .i64 0) (x2 := .int .i64 (F.2 : Int)) HF3.out)
    have KT : Kt (fun t => t ≠ 39 ∧ t ≠ 27) w3 (((w3.setCell ⟨w.heap.size, 0, none⟩ (.int .i64 (F.1 : Int))).setCell ⟨w.heap.size, 1, none⟩ (.int .i64 0)).setCell ⟨w.heap.size, 2, none⟩ (.int .i64 (F.2 : Int))).drew := (Kt.weak (T := fun t => t ≠ 27) (tri_kt HF3.out (by simp)) (fun t h => h.2)).trans (Kt.drew _)
    have HBZ : Hid (Below w.heap.size w (((w3.setCell ⟨w.heap.size, 0, none⟩ (.int .i64 (F.1 : Int))).setCell ⟨w.heap.size, 1, none⟩ (.int .i64 0)).setCell ⟨w.heap.size, 2, none⟩ (.int .i64 (F.2 : Int))).drew) := Lib.hid ((Below.setCell (Below.setCell (Below.setCell H3.out (p := ⟨w.heap.size, 0, none⟩) (by simp) _) (p := ⟨w.heap.size, 1, none⟩) (by simp) _) (p := ⟨w.heap.size, 2, none⟩) (by simp) _)).drew
    clear KT k3 hw3 h3 hf3 hb0
    go_upto_region 4 with fail
    go_region
    all_goals
      go_wp2
      refine bodyPost_ret (results_slot_row rfl _ _ (.slice none 0 0) w.heap.size 27 #[.int .i64 (F.1 : Int), .int .i64 0, .int .i64 (F.2 : Int)] (0, 0) _ rfl rfl HF4.out Tryz.underlying27 rfl Tryz.size25) rfl ?_
      exact ⟨_, HRES.out, HBZ.out, rfl, HNE.out⟩
  | ok x =>
    obtain ⟨he, hgd⟩ := he
    have he : e = .returned (FaultV 0 0) := he
    subst he
    rw [faultV_cells]
    have HGD := Lib.hid hgd
    clear hgd
    obtain ⟨sl, hcc, hvv⟩ := HGD.out
    obtain ⟨sa, sc, rfl⟩ := hvv.form
    obtain ⟨ln, hln⟩ : ∃ ln, ln = x.length := ⟨_, rfl⟩
    rw [← hln] at hcc hvv
    clear hln
    go_upto_region 3 with fail
    obtain ⟨w3, hw3⟩ : ∃ w3, w3 = w2.alloc (.cells #[.int .i64 0, .int .i64 0, .int .i64 0] 27) := ⟨_, rfl⟩
    try simp only [show (((0 : Nat) : Int)) = 0 from rfl]
    rw [← hw3]
    have k3 : Kt (fun _ => True) w2 w3 := by rw [hw3]; exact Kt.alloc _ _
    have h3 : w3.heap[w2.heap.size]? = some (.cells #[.int .i64 0, .int .i64 0, .int .i64 0] 27) := by rw [hw3]; exact heap_alloc_new _ _
    have hf3 := k3 _ _ _ HF2.out trivial
    have HF3 := Lib.hid hf3
    have H3 : Hid (Below w.heap.size w w3) := Lib.hid (by rw [hw3]; exact H2.out.alloc H2.out.size _)
    obtain ⟨b, hb0⟩ : ∃ b, b = w2.heap.size := ⟨_, rfl⟩
    rw [← hb0] at h3 ⊢
    have hne1 : ¬ b = w.heap.size := by have := HZ1.out; have := HZ2.out; omega
    have hne2 : ¬ b = w.heap.size + 1 := by have := HZ1.out; have := HZ2.out; omega
    have HZZ : Hid (w.heap.size ≤ w1.heap.size) := Lib.hid (by have := HZ1.out; omega)
    obtain ⟨x0, x1, x2, xf0, xf1, xf2⟩ := row3 h3
    obtain ⟨y0, y1, y2, yf0, yf1, yf2⟩ := row3 hf3
    have hc3 := k3 _ _ _ hcc trivial
    obtain ⟨cc0, cf0⟩ := row1c hc3
    have HVV := Lib.hid (show AtmsV w1.heap.size x w3 (.slice sa ln sc) from by exact AtmsV.kt hvv k3 trivial trivial)
    have HF4 : Hid ((((w3.setCell ⟨w.heap.size, 0, none⟩ (.int .i64 0)).setCell ⟨w.heap.size, 1, none⟩ (.int .i64 0)).setCell ⟨w.heap.size, 2, none⟩ (.int .i64 0)).drew.heap[w.heap.size]? = some (.cells #[.int .i64 0, .int .i64 0, .int .i64 0] 27)) := Lib.hid (by rw [drew_heap]; exact tri_set (x0 := .int .i64 0) (x1 := .int .i64 0) (x2 := .int .i64 0) HF3.out)
    have KT : Kt (fun t => t ≠ 39 ∧ t ≠ 27) w3 (((w3.setCell ⟨w.heap.size, 0, none⟩ (.int .i64 0)).setCell ⟨w.heap.size, 1, none⟩ (.int .i64 0)).setCell ⟨w.heap.size, 2, none⟩ (.int .i64 0)).drew := (Kt.weak (T := fun t => t ≠ 27) (tri_kt HF3.out (by simp)) (fun t h => h.2)).trans (Kt.drew _)
    have HBZ : Hid (Below w.heap.size w (((w3.setCell ⟨w.heap.size, 0, none⟩ (.int .i64 0)).setCell ⟨w.heap.size, 1, none⟩ (.int .i64 0)).setCell ⟨w.heap.size, 2, none⟩ (.int .i64 0)).drew) := Lib.hid ((Below.setCell (Below.setCell (Below.setCell H3.out (p := ⟨w.heap.size, 0, none⟩) (by simp) _) (p := ⟨w.heap.size, 1, none⟩) (by simp) _) (p := ⟨w.heap.size, 2, none⟩) (by simp) _)).drew
    have HVZ : Hid (AtmsV w.heap.size x (((w3.setCell ⟨w.heap.size, 0, none⟩ (.int .i64 0)).setCell ⟨w.heap.size, 1, none⟩ (.int .i64 0)).setCell ⟨w.heap.size, 2, none⟩ (.int .i64 0)).drew (.slice sa ln sc)) := Lib.hid ((AtmsV.kt HVV.out KT (by decide) (by decide)).mono HZZ.out)
    clear KT k3 hw3 h3 hf3 hb0 hcc hvv hc3
    go_upto_region 5 with fail
    go_region
    all_goals
      go_wp2
      refine bodyPost_ret (results_slot_row rfl _ _ (.slice sa ln sc) w.heap.size 27 #[.int .i64 0, .int .i64 0, .int .i64 0] (0, 0) _ rfl rfl HF4.out Tryz.underlying27 rfl Tryz.size25) rfl ?_
      exact ⟨_, HRES.out, HBZ.out, _, rfl, HVZ.out⟩

set_option maxRecDepth 100000 in
set_option maxHeartbeats 6400000 in
theorem parse_query (s : ByteArray) (B : Nat) (ts : List Tk) (f : Gr.Flt) (w : World) (hs : s.size ≤ 65536) (hSc : Sc (L s) 0 ts f) (hG : Gl B w) (hts : ts.length ≤ 70000) :
    Calls Tryz.prog 7 #[.string s] w fun e w' => ∃ res : Except Gr.Flt (List Gr.Lit), Gr.QueryR f ts res ∧ Below w.heap.size w w' ∧ match res with
      | .error F => e = .returned (.tuple #[.slice none 0 0, FaultV F.1 F.2]) ∧ F.1 ≠ 0
      | .ok x => ∃ sl, e = .returned (.tuple #[sl, FaultV 0 0]) ∧ LitsV w.heap.size x w' sl := by
  have hmf : ∀ (fn : Fn) (first cap : Array Value) (w : World), (Instr.makeFunc fn first cap).run Tryz.prog w = .ok (.func fn first cap) w := fun _ _ _ _ => rfl
  have HEN := Lib.hid (Gr.sc_ends hSc)
  have HSC := Lib.hid hSc
  obtain ⟨w1, hw1⟩ : ∃ w1, w1 = (w.alloc (.cells #[.int .i64 0, .int .i64 0, .int .i64 0] 27)).alloc (.cells #[.slice none 0 0] 33) := ⟨_, rfl⟩
  have H1 : Hid (Below w.heap.size w w1) := Lib.hid (by rw [hw1]; exact (up_alloc _ _).alloc (by simp) _)
  have HZ1 : Hid (w1.heap.size = w.heap.size + 2) := Lib.hid (by rw [hw1]; simp)
  have HF1 : Hid (w1.heap[w.heap.size]? = some (.cells #[.int .i64 0, .int .i64 0, .int .i64 0] 27)) := Lib.hid (by rw [hw1, Below.heap_alloc _ _ _ (by simp)]; exact heap_alloc_new _ _)
  have HC1 : Hid (w1.heap[w.heap.size + 1]? = some (.cells #[.slice none 0 0] 33)) := Lib.hid (by rw [hw1]; have := heap_alloc_new (w.alloc (.cells #[.int .i64 0, .int .i64 0, .int .i64 0] 27)) (.cells #[.slice none 0 0] 33); simpa using this)
  have HG1 := Lib.hid (hG.below (H1.out.mono hG.lt))
  have HW1 := Lib.hid hw1
  clear hw1 hSc hG
  go_enter Tryz.func7, Tryz.ntmps7
  go_upto_region 2 with fail
  rw [← HW1.out]
  go_wp2_with fail
  refine (guarded_query s B (w.heap.size + 1) ts f w1 hs HSC.out HG1.out hts HC1.out).mono ?_
  rintro e w2 ⟨res, hres, ho, he⟩
  have HRES := Lib.hid hres
  have HF2 : Hid (w2.heap[w.heap.size]? = some (.cells #[.int .i64 0, .int .i64 0, .int .i64 0] 27)) := Lib.hid (by rw [ho.block _ (by have := HZ1.out; omega) (by omega)]; exact HF1.out)
  have H2 : Hid (Below w.heap.size w w2) := Lib.hid (H1.out.trans ⟨ho.os, ho.tape, ho.output, Nat.le_trans (by have := HZ1.out; omega) ho.size, fun k hk => ho.block k (by have := HZ1.out; omega) (by omega)⟩)
  have HZ2 := Lib.hid ho.size
  clear hres ho
  cases res with
  | error F =>
    have he : e = .returned (FaultV F.1 F.2) := he
    subst he
    rw [faultV_cells]
    have HNE := Lib.hid (Gr.query_code HRES.out HEN.out _ rfl)
    have ec : ((F.1 : Int) != 0) = true := by have := HNE.out; simp; omega
    go_upto_region 3 with fail
    obtain ⟨w3, hw3⟩ : ∃ w3, w3 = w2.alloc (.cells #[.int .i64 (F.1 : Int), .int .i64 0, .int .i64 (F.2 : Int)] 27) := ⟨_, rfl⟩
    rw [← hw3]
    have k3 : Kt (fun _ => True) w2 w3 := by rw [hw3]; exact Kt.alloc _ _
    have h3 : w3.heap[w2.heap.size]? = some (.cells #[.int .i64 (F.1 : Int), .int .i64 0, .int .i64 (F.2 : Int)] 27) := by rw [hw3]; exact heap_alloc_new _ _
    have hf3 := k3 _ _ _ HF2.out trivial
    have HF3 := Lib.hid hf3
    have H3 : Hid (Below w.heap.size w w3) := Lib.hid (by rw [hw3]; exact H2.out.alloc H2.out.size _)
    obtain ⟨b, hb0⟩ : ∃ b, b = w2.heap.size := ⟨_, rfl⟩
    rw [← hb0] at h3 ⊢
    have hne1 : ¬ b = w.heap.size := by have := HZ1.out; have := HZ2.out; omega
    have hne2 : ¬ b = w.heap.size + 1 := by have := HZ1.out; have := HZ2.out; omega
    have HZZ : Hid (w.heap.size ≤ w1.heap.size) := Lib.hid (by have := HZ1.out; omega)
    obtain ⟨x0, x1, x2, xf0, xf1, xf2⟩ := row3 h3
    obtain ⟨y0, y1, y2, yf0, yf1, yf2⟩ := row3 hf3
    have HF4 : Hid ((((w3.setCell ⟨w.heap.size, 0, none⟩ (.int .i64 (F.1 : Int))).setCell ⟨w.heap.size, 1, none⟩ (.int .i64 0)).setCell ⟨w.heap.size, 2, none⟩ (.int .i64 (F.2 : Int))).drew.heap[w.heap.size]? = some (.cells #[.int .i64 (F.1 : Int), .int .i64 0, .int .i64 (F.2 : Int)] 27)) := Lib.hid (by rw [drew_heap]; exact tri_set (x0 := .int .i64 (F.1 : Int)) (x1 := .int .i64 0) (x2 := .int .i64 (F.2 : Int)) HF3.out)
    have KT : Kt (fun t => t ≠ 33 ∧ t ≠ 27) w3 (((w3.setCell ⟨w.heap.size, 0, none⟩ (.int .i64 (F.1 : Int))).setCell ⟨w.heap.size, 1, none⟩ (.int .i64 0)).setCell ⟨w.heap.size, 2, none⟩ (.int .i64 (F.2 : Int))).drew := (Kt.weak (T := fun t => t ≠ 27) (tri_kt HF3.out (by simp)) (fun t h => h.2)).trans (Kt.drew _)
    have HBZ : Hid (Below w.heap.size w (((w3.setCell ⟨w.heap.size, 0, none⟩ (.int .i64 (F.1 : Int))).setCell ⟨w.heap.size, 1, none⟩ (.int .i64 0)).setCell ⟨w.heap.size, 2, none⟩ (.int .i64 (F.2 : Int))).drew) := Lib.hid ((Below.setCell (Below.setCell (Below.setCell H3.out (p := ⟨w.heap.size, 0, none⟩) (by simp) _) (p := ⟨w.heap.size, 1, none⟩) (by simp) _) (p := ⟨w.heap.size, 2, none⟩) (by simp) _)).drew
    clear KT k3 hw3 h3 hf3 hb0
    go_upto_region 4 with fail
    go_region
    all_goals
      go_wp2
      refine bodyPost_ret (results_slot_row rfl _ _ (.slice none 0 0) w.heap.size 27 #[.int .i64 (F.1 : Int), .int .i64 0, .int .i64 (F.2 : Int)] (0, 0) _ rfl rfl HF4.out Tryz.underlying27 rfl Tryz.size25) rfl ?_
      exact ⟨_, HRES.out, HBZ.out, rfl, HNE.out⟩
  | ok x =>
    obtain ⟨he, hgd⟩ := he
    have he : e = .returned (FaultV 0 0) := he
    subst he
    rw [faultV_cells]
    have HGD := Lib.hid hgd
    clear hgd
    obtain ⟨sl, hcc, hvv⟩ := HGD.out
    obtain ⟨sa, sc, rfl⟩ := hvv.form
    obtain ⟨ln, hln⟩ : ∃ ln, ln = x.length := ⟨_, rfl⟩
    rw [← hln] at hcc hvv
    clear hln
    go_upto_region 3 with fail
    obtain ⟨w3, hw3⟩ : ∃ w3, w3 = w2.alloc (.cells #[.int .i64 0, .int .i64 0, .int .i64 0] 27) := ⟨_, rfl⟩
    try simp only [show (((0 : Nat) : Int)) = 0 from rfl]
    rw [← hw3]
    have k3 : Kt (fun _ => True) w2 w3 := by rw [hw3]; exact Kt.alloc _ _
    have h3 : w3.heap[w2.heap.size]? = some (.cells #[.int .i64 0, .int .i64 0, .int .i64 0] 27) := by rw [hw3]; exact heap_alloc_new _ _
    have hf3 := k3 _ _ _ HF2.out trivial
    have HF3 := Lib.hid hf3
    have H3 : Hid (Below w.heap.size w w3) := Lib.hid (by rw [hw3]; exact H2.out.alloc H2.out.size _)
    obtain ⟨b, hb0⟩ : ∃ b, b = w2.heap.size := ⟨_, rfl⟩
    rw [← hb0] at h3 ⊢
    have hne1 : ¬ b = w.heap.size := by have := HZ1.out; have := HZ2.out; omega
    have hne2 : ¬ b = w.heap.size + 1 := by have := HZ1.out; have := HZ2.out; omega
    have HZZ : Hid (w.heap.size ≤ w1.heap.size) := Lib.hid (by have := HZ1.out; omega)
    obtain ⟨x0, x1, x2, xf0, xf1, xf2⟩ := row3 h3
    obtain ⟨y0, y1, y2, yf0, yf1, yf2⟩ := row3 hf3
    have hc3 := k3 _ _ _ hcc trivial
    obtain ⟨cc0, cf0⟩ := row1c hc3
    have HVV := Lib.hid (show LitsV w1.heap.size x w3 (.slice sa ln sc) from by exact LitsV.kt hvv k3 trivial trivial)
    have HF4 : Hid ((((w3.setCell ⟨w.heap.size, 0, none⟩ (.int .i64 0)).setCell ⟨w.heap.size, 1, none⟩ (.int .i64 0)).setCell ⟨w.heap.size, 2, none⟩ (.int .i64 0)).drew.heap[w.heap.size]? = some (.cells #[.int .i64 0, .int .i64 0, .int .i64 0] 27)) := Lib.hid (by rw [drew_heap]; exact tri_set (x0 := .int .i64 0) (x1 := .int .i64 0) (x2 := .int .i64 0) HF3.out)
    have KT : Kt (fun t => t ≠ 33 ∧ t ≠ 27) w3 (((w3.setCell ⟨w.heap.size, 0, none⟩ (.int .i64 0)).setCell ⟨w.heap.size, 1, none⟩ (.int .i64 0)).setCell ⟨w.heap.size, 2, none⟩ (.int .i64 0)).drew := (Kt.weak (T := fun t => t ≠ 27) (tri_kt HF3.out (by simp)) (fun t h => h.2)).trans (Kt.drew _)
    have HBZ : Hid (Below w.heap.size w (((w3.setCell ⟨w.heap.size, 0, none⟩ (.int .i64 0)).setCell ⟨w.heap.size, 1, none⟩ (.int .i64 0)).setCell ⟨w.heap.size, 2, none⟩ (.int .i64 0)).drew) := Lib.hid ((Below.setCell (Below.setCell (Below.setCell H3.out (p := ⟨w.heap.size, 0, none⟩) (by simp) _) (p := ⟨w.heap.size, 1, none⟩) (by simp) _) (p := ⟨w.heap.size, 2, none⟩) (by simp) _)).drew
    have HVZ : Hid (LitsV w.heap.size x (((w3.setCell ⟨w.heap.size, 0, none⟩ (.int .i64 0)).setCell ⟨w.heap.size, 1, none⟩ (.int .i64 0)).setCell ⟨w.heap.size, 2, none⟩ (.int .i64 0)).drew (.slice sa ln sc)) := Lib.hid ((LitsV.kt HVV.out KT (by decide) (by decide)).mono HZZ.out)
    clear KT k3 hw3 h3 hf3 hb0 hcc hvv hc3
    go_upto_region 5 with fail
    go_region
    all_goals
      go_wp2
      refine bodyPost_ret (results_slot_row rfl _ _ (.slice sa ln sc) w.heap.size 27 #[.int .i64 0, .int .i64 0, .int .i64 0] (0, 0) _ rfl rfl HF4.out Tryz.underlying27 rfl Tryz.size25) rfl ?_
      exact ⟨_, HRES.out, HBZ.out, _, rfl, HVZ.out⟩

set_option maxRecDepth 100000 in
set_option maxHeartbeats 6400000 in
theorem parse_fact (s : ByteArray) (B : Nat) (ts : List Tk) (f : Gr.Flt) (w : World) (hs : s.size ≤ 65536) (hSc : Sc (L s) 0 ts f) (hG : Gl B w) (hts : ts.length ≤ 70000) :
    Calls Tryz.prog 8 #[.string s] w fun e w' => ∃ res : Except Gr.Flt (Gr.Atm), res = Gr.factP f ts ∧ Below w.heap.size w w' ∧ match res with
      | .error F => e = .returned (.tuple #[.agg #[.string { data := #[] }, .slice none 0 0], FaultV F.1 F.2]) ∧ F.1 ≠ 0
      | .ok x => ∃ sl, e = .returned (.tuple #[.agg #[.string ⟨x.pred.toArray⟩, sl], FaultV 0 0]) ∧ w'.ownsRow w.heap.size 57 3 sl x.args.length (flatC x.args) := by
  have hmf : ∀ (fn : Fn) (first cap : Array Value) (w : World), (Instr.makeFunc fn first cap).run Tryz.prog w = .ok (.func fn first cap) w := fun _ _ _ _ => rfl
  have HEN := Lib.hid (Gr.sc_ends hSc)
  have HSC := Lib.hid hSc
  obtain ⟨w1, hw1⟩ : ∃ w1, w1 = ((w.alloc (.cells #[.string { data := #[] }, .slice none 0 0] 46)).alloc (.cells #[.int .i64 0, .int .i64 0, .int .i64 0] 27)).alloc (.cells #[.string { data := #[] }, .slice none 0 0] 46) := ⟨_, rfl⟩
  have H1 : Hid (Below w.heap.size w w1) := Lib.hid (by rw [hw1]; exact ((up_alloc _ _).alloc (by simp) _).alloc (by simp; omega) _)
  have HZ1 : Hid (w1.heap.size = w.heap.size + 3) := Lib.hid (by rw [hw1]; simp)
  have HP1 : Hid (w1.heap[w.heap.size]? = some (.cells #[.string { data := #[] }, .slice none 0 0] 46)) := Lib.hid (by rw [hw1, Below.heap_alloc _ _ _ (by simp; omega), Below.heap_alloc _ _ _ (by simp)]; exact heap_alloc_new _ _)
  have HF1 : Hid (w1.heap[w.heap.size + 1]? = some (.cells #[.int .i64 0, .int .i64 0, .int .i64 0] 27)) := Lib.hid (by rw [hw1, Below.heap_alloc _ _ _ (by simp)]; have := heap_alloc_new (w.alloc (.cells #[.string { data := #[] }, .slice none 0 0] 46)) (.cells #[.int .i64 0, .int .i64 0, .int .i64 0] 27); simpa using this)
  have HC1 : Hid (w1.heap[w.heap.size + 2]? = some (.cells #[.string { data := #[] }, .slice none 0 0] 46)) := Lib.hid (by rw [hw1]; have := heap_alloc_new ((w.alloc (.cells #[.string { data := #[] }, .slice none 0 0] 46)).alloc (.cells #[.int .i64 0, .int .i64 0, .int .i64 0] 27)) (.cells #[.string { data := #[] }, .slice none 0 0] 46); simpa using this)
  have HG1 := Lib.hid (hG.below (H1.out.mono hG.lt))
  have HW1 := Lib.hid hw1
  clear hw1 hSc hG
  go_enter Tryz.func8, Tryz.ntmps8
  go_upto_region 2 with fail
  rw [← HW1.out]
  go_wp2_with fail
  refine (guarded_fact s B (w.heap.size + 2) ts f w1 hs HSC.out HG1.out hts HC1.out).mono ?_
  rintro e w2 ⟨res, hres, ho, he⟩
  have HRES := Lib.hid hres
  have HF2 : Hid (w2.heap[(w.heap.size + 1)]? = some (.cells #[.int .i64 0, .int .i64 0, .int .i64 0] 27)) := Lib.hid (by rw [ho.block _ (by have := HZ1.out; omega) (by omega)]; exact HF1.out)
  have HP2 : Hid (w2.heap[w.heap.size]? = some (.cells #[.string { data := #[] }, .slice none 0 0] 46)) := Lib.hid (by rw [ho.block _ (by have := HZ1.out; omega) (by omega)]; exact HP1.out)
  have H2 : Hid (Below w.heap.size w w2) := Lib.hid (H1.out.trans ⟨ho.os, ho.tape, ho.output, Nat.le_trans (by have := HZ1.out; omega) ho.size, fun k hk => ho.block k (by have := HZ1.out; omega) (by omega)⟩)
  have HZ2 := Lib.hid ho.size
  clear hres ho
  cases res with
  | error F =>
    have he : e = .returned (FaultV F.1 F.2) := he
    subst he
    rw [faultV_cells]
    have HNE := Lib.hid (Gr.fact_code HEN.out HRES.out.symm)
    have ec : ((F.1 : Int) != 0) = true := by have := HNE.out; simp; omega
    go_upto_region 3 with fail
    obtain ⟨w3, hw3⟩ : ∃ w3, w3 = w2.alloc (.cells #[.int .i64 (F.1 : Int), .int .i64 0, .int .i64 (F.2 : Int)] 27) := ⟨_, rfl⟩
    rw [← hw3]
    have k3 : Kt (fun _ => True) w2 w3 := by rw [hw3]; exact Kt.alloc _ _
    have h3 : w3.heap[w2.heap.size]? = some (.cells #[.int .i64 (F.1 : Int), .int .i64 0, .int .i64 (F.2 : Int)] 27) := by rw [hw3]; exact heap_alloc_new _ _
    have hf3 := k3 _ _ _ HF2.out trivial
    have HF3 := Lib.hid hf3
    have H3 : Hid (Below w.heap.size w w3) := Lib.hid (by rw [hw3]; exact H2.out.alloc H2.out.size _)
    obtain ⟨b, hb0⟩ : ∃ b, b = w2.heap.size := ⟨_, rfl⟩
    rw [← hb0] at h3 ⊢
    have hne1 : ¬ b = w.heap.size := by have := HZ1.out; have := HZ2.out; omega
    have hne2 : ¬ b = w.heap.size + 1 := by have := HZ1.out; have := HZ2.out; omega
    have HZZ : Hid (w.heap.size ≤ w1.heap.size) := Lib.hid (by have := HZ1.out; omega)
    obtain ⟨x0, x1, x2, xf0, xf1, xf2⟩ := row3 h3
    obtain ⟨y0, y1, y2, yf0, yf1, yf2⟩ := row3 hf3
    have hp3 := k3 _ _ _ HP2.out trivial
    have HP3 := Lib.hid hp3
    obtain ⟨z0, z1, zf0, zf1⟩ := row2c hp3
    have KT1 : Kt (fun t => t ≠ 46) w3 ((w3.setCell ⟨w.heap.size, 0, none⟩ (.string { data := #[] })).setCell ⟨w.heap.size, 1, none⟩ (.slice none 0 0)) := (Kt.set (p := ⟨w.heap.size, 0, none⟩) HP3.out (by simp)).trans (Kt.set (p := ⟨w.heap.size, 1, none⟩) (show (w3.setCell ⟨w.heap.size, 0, none⟩ (.string { data := #[] })).heap[w.heap.size]? = some (.cells #[.string { data := #[] }, .slice none 0 0] 46) by have := HP3.out; simp [World.setCell, Array.getElem?_modify, this]) (by simp))
    have hf4 := KT1 _ _ _ HF3.out (by decide)
    have hh2 := tri_set (x0 := .int .i64 (F.1 : Int)) (x1 := .int .i64 0) (x2 := .int .i64 (F.2 : Int)) hf4
    have KT2 : Kt (fun t => t ≠ 27) ((w3.setCell ⟨w.heap.size, 0, none⟩ (.string { data := #[] })).setCell ⟨w.heap.size, 1, none⟩ (.slice none 0 0)) (((((w3.setCell ⟨w.heap.size, 0, none⟩ (.string { data := #[] })).setCell ⟨w.heap.size, 1, none⟩ (.slice none 0 0)).setCell ⟨w.heap.size + 1, 0, none⟩ (.int .i64 (F.1 : Int))).setCell ⟨w.heap.size + 1, 1, none⟩ (.int .i64 0)).setCell ⟨w.heap.size + 1, 2, none⟩ (.int .i64 (F.2 : Int))) := tri_kt hf4 (by simp)
    have HP4 : Hid ((((((w3.setCell ⟨w.heap.size, 0, none⟩ (.string { data := #[] })).setCell ⟨w.heap.size, 1, none⟩ (.slice none 0 0)).setCell ⟨w.heap.size + 1, 0, none⟩ (.int .i64 (F.1 : Int))).setCell ⟨w.heap.size + 1, 1, none⟩ (.int .i64 0)).setCell ⟨w.heap.size + 1, 2, none⟩ (.int .i64 (F.2 : Int))).drew.heap[w.heap.size]? = some (.cells #[.string { data := #[] }, .slice none 0 0] 46)) := Lib.hid (by rw [drew_heap]; exact KT2 _ _ _ (duo_set HP3.out) (by decide))
    have HF4 : Hid ((((((w3.setCell ⟨w.heap.size, 0, none⟩ (.string { data := #[] })).setCell ⟨w.heap.size, 1, none⟩ (.slice none 0 0)).setCell ⟨w.heap.size + 1, 0, none⟩ (.int .i64 (F.1 : Int))).setCell ⟨w.heap.size + 1, 1, none⟩ (.int .i64 0)).setCell ⟨w.heap.size + 1, 2, none⟩ (.int .i64 (F.2 : Int))).drew.heap[(w.heap.size + 1)]? = some (.cells #[.int .i64 (F.1 : Int), .int .i64 0, .int .i64 (F.2 : Int)] 27)) := Lib.hid (by rw [drew_heap]; exact hh2)
    have KT : Kt (fun t => t ≠ 46 ∧ t ≠ 27) w3 (((((w3.setCell ⟨w.heap.size, 0, none⟩ (.string { data := #[] })).setCell ⟨w.heap.size, 1, none⟩ (.slice none 0 0)).setCell ⟨w.heap.size + 1, 0, none⟩ (.int .i64 (F.1 : Int))).setCell ⟨w.heap.size + 1, 1, none⟩ (.int .i64 0)).setCell ⟨w.heap.size + 1, 2, none⟩ (.int .i64 (F.2 : Int))).drew := ((KT1.weak (fun t h => h.1)).trans (KT2.weak (fun t h => h.2))).trans (Kt.drew _)
    have HBZ : Hid (Below w.heap.size w (((((w3.setCell ⟨w.heap.size, 0, none⟩ (.string { data := #[] })).setCell ⟨w.heap.size, 1, none⟩ (.slice none 0 0)).setCell ⟨w.heap.size + 1, 0, none⟩ (.int .i64 (F.1 : Int))).setCell ⟨w.heap.size + 1, 1, none⟩ (.int .i64 0)).setCell ⟨w.heap.size + 1, 2, none⟩ (.int .i64 (F.2 : Int))).drew) := Lib.hid ((Below.setCell (Below.setCell (Below.setCell (Below.setCell (Below.setCell H3.out (p := ⟨w.heap.size, 0, none⟩) (by simp) _) (p := ⟨w.heap.size, 1, none⟩) (by simp) _) (p := ⟨(w.heap.size + 1), 0, none⟩) (by simp) _) (p := ⟨(w.heap.size + 1), 1, none⟩) (by simp) _) (p := ⟨(w.heap.size + 1), 2, none⟩) (by simp) _)).drew
    clear KT k3 hw3 h3 hf3 hb0 hp3 KT1 KT2 hh2 hf4
    go_upto_region 4 with fail
    go_region
    all_goals
      go_wp2
      refine bodyPost_ret (results_two_rows rfl _ _ w.heap.size (w.heap.size + 1) 46 27 #[.string { data := #[] }, .slice none 0 0] #[.int .i64 (F.1 : Int), .int .i64 0, .int .i64 (F.2 : Int)] (0, 0) (0, 0) _ _ rfl HP4.out Tryz.underlying46 rfl Tryz.size46 rfl HF4.out Tryz.underlying27 rfl Tryz.size25) rfl ?_
      exact ⟨_, HRES.out, HBZ.out, rfl, HNE.out⟩
  | ok x =>
    obtain ⟨he, hgd⟩ := he
    have he : e = .returned (FaultV 0 0) := he
    subst he
    rw [faultV_cells]
    have HGD := Lib.hid hgd
    clear hgd
    obtain ⟨sl, hcc, hvv⟩ := HGD.out
    obtain ⟨sa, sc, rfl⟩ : ∃ sa sc, sl = .slice sa x.args.length sc := by
      rcases Joins.ownsRow_forms hvv with ⟨h5, h6⟩ | ⟨g, cap, h5⟩
      · exact ⟨none, 0, by rw [h5]; rw [h6]⟩
      · exact ⟨_, cap, h5⟩
    obtain ⟨ln, hln⟩ : ∃ ln, ln = x.args.length := ⟨_, rfl⟩
    have HLN := Lib.hid hln
    rw [← hln] at hcc hvv
    clear hln
    go_upto_region 3 with fail
    obtain ⟨w3, hw3⟩ : ∃ w3, w3 = w2.alloc (.cells #[.int .i64 0, .int .i64 0, .int .i64 0] 27) := ⟨_, rfl⟩
    try simp only [show (((0 : Nat) : Int)) = 0 from rfl]
    rw [← hw3]
    have k3 : Kt (fun _ => True) w2 w3 := by rw [hw3]; exact Kt.alloc _ _
    have h3 : w3.heap[w2.heap.size]? = some (.cells #[.int .i64 0, .int .i64 0, .int .i64 0] 27) := by rw [hw3]; exact heap_alloc_new _ _
    have hf3 := k3 _ _ _ HF2.out trivial
    have HF3 := Lib.hid hf3
    have H3 : Hid (Below w.heap.size w w3) := Lib.hid (by rw [hw3]; exact H2.out.alloc H2.out.size _)
    obtain ⟨b, hb0⟩ : ∃ b, b = w2.heap.size := ⟨_, rfl⟩
    rw [← hb0] at h3 ⊢
    have hne1 : ¬ b = w.heap.size := by have := HZ1.out; have := HZ2.out; omega
    have hne2 : ¬ b = w.heap.size + 1 := by have := HZ1.out; have := HZ2.out; omega
    have HZZ : Hid (w.heap.size ≤ w1.heap.size) := Lib.hid (by have := HZ1.out; omega)
    obtain ⟨x0, x1, x2, xf0, xf1, xf2⟩ := row3 h3
    obtain ⟨y0, y1, y2, yf0, yf1, yf2⟩ := row3 hf3
    have hp3 := k3 _ _ _ HP2.out trivial
    have HP3 := Lib.hid hp3
    obtain ⟨z0, z1, zf0, zf1⟩ := row2c hp3
    have hc3 := k3 _ _ _ hcc trivial
    obtain ⟨cc0, cc1, cf0, cf1⟩ := row2c hc3
    have HVV := Lib.hid (show w3.ownsRow w1.heap.size 57 3 (.slice sa ln sc) ln (flatC x.args) from by exact k3.own trivial hvv)
    have KT1 : Kt (fun t => t ≠ 46) w3 ((w3.setCell ⟨w.heap.size, 0, none⟩ (.string ⟨x.pred.toArray⟩)).setCell ⟨w.heap.size, 1, none⟩ (.slice sa ln sc)) := (Kt.set (p := ⟨w.heap.size, 0, none⟩) HP3.out (by simp)).trans (Kt.set (p := ⟨w.heap.size, 1, none⟩) (show (w3.setCell ⟨w.heap.size, 0, none⟩ (.string ⟨x.pred.toArray⟩)).heap[w.heap.size]? = some (.cells #[.string ⟨x.pred.toArray⟩, .slice none 0 0] 46) by have := HP3.out; simp [World.setCell, Array.getElem?_modify, this]) (by simp))
    have hf4 := KT1 _ _ _ HF3.out (by decide)
    have hh2 := tri_set (x0 := .int .i64 0) (x1 := .int .i64 0) (x2 := .int .i64 0) hf4
    have KT2 : Kt (fun t => t ≠ 27) ((w3.setCell ⟨w.heap.size, 0, none⟩ (.string ⟨x.pred.toArray⟩)).setCell ⟨w.heap.size, 1, none⟩ (.slice sa ln sc)) (((((w3.setCell ⟨w.heap.size, 0, none⟩ (.string ⟨x.pred.toArray⟩)).setCell ⟨w.heap.size, 1, none⟩ (.slice sa ln sc)).setCell ⟨w.heap.size + 1, 0, none⟩ (.int .i64 0)).setCell ⟨w.heap.size + 1, 1, none⟩ (.int .i64 0)).setCell ⟨w.heap.size + 1, 2, none⟩ (.int .i64 0)) := tri_kt hf4 (by simp)
    have HP4 : Hid ((((((w3.setCell ⟨w.heap.size, 0, none⟩ (.string ⟨x.pred.toArray⟩)).setCell ⟨w.heap.size, 1, none⟩ (.slice sa ln sc)).setCell ⟨w.heap.size + 1, 0, none⟩ (.int .i64 0)).setCell ⟨w.heap.size + 1, 1, none⟩ (.int .i64 0)).setCell ⟨w.heap.size + 1, 2, none⟩ (.int .i64 0)).drew.heap[w.heap.size]? = some (.cells #[.string ⟨x.pred.toArray⟩, .slice sa ln sc] 46)) := Lib.hid (by rw [drew_heap]; exact KT2 _ _ _ (duo_set HP3.out) (by decide))
    have HF4 : Hid ((((((w3.setCell ⟨w.heap.size, 0, none⟩ (.string ⟨x.pred.toArray⟩)).setCell ⟨w.heap.size, 1, none⟩ (.slice sa ln sc)).setCell ⟨w.heap.size + 1, 0, none⟩ (.int .i64 0)).setCell ⟨w.heap.size + 1, 1, none⟩ (.int .i64 0)).setCell ⟨w.heap.size + 1, 2, none⟩ (.int .i64 0)).drew.heap[(w.heap.size + 1)]? = some (.cells #[.int .i64 0, .int .i64 0, .int .i64 0] 27)) := Lib.hid (by rw [drew_heap]; exact hh2)
    have KT : Kt (fun t => t ≠ 46 ∧ t ≠ 27) w3 (((((w3.setCell ⟨w.heap.size, 0, none⟩ (.string ⟨x.pred.toArray⟩)).setCell ⟨w.heap.size, 1, none⟩ (.slice sa ln sc)).setCell ⟨w.heap.size + 1, 0, none⟩ (.int .i64 0)).setCell ⟨w.heap.size + 1, 1, none⟩ (.int .i64 0)).setCell ⟨w.heap.size + 1, 2, none⟩ (.int .i64 0)).drew := ((KT1.weak (fun t h => h.1)).trans (KT2.weak (fun t h => h.2))).trans (Kt.drew _)
    have HBZ : Hid (Below w.heap.size w (((((w3.setCell ⟨w.heap.size, 0, none⟩ (.string ⟨x.pred.toArray⟩)).setCell ⟨w.heap.size, 1, none⟩ (.slice sa ln sc)).setCell ⟨w.heap.size + 1, 0, none⟩ (.int .i64 0)).setCell ⟨w.heap.size + 1, 1, none⟩ (.int .i64 0)).setCell ⟨w.heap.size + 1, 2, none⟩ (.int .i64 0)).drew) := Lib.hid ((Below.setCell (Below.setCell (Below.setCell (Below.setCell (Below.setCell H3.out (p := ⟨w.heap.size, 0, none⟩) (by simp) _) (p := ⟨w.heap.size, 1, none⟩) (by simp) _) (p := ⟨(w.heap.size + 1), 0, none⟩) (by simp) _) (p := ⟨(w.heap.size + 1), 1, none⟩) (by simp) _) (p := ⟨(w.heap.size + 1), 2, none⟩) (by simp) _)).drew
    have HVZ : Hid ((((((w3.setCell ⟨w.heap.size, 0, none⟩ (.string ⟨x.pred.toArray⟩)).setCell ⟨w.heap.size, 1, none⟩ (.slice sa ln sc)).setCell ⟨w.heap.size + 1, 0, none⟩ (.int .i64 0)).setCell ⟨w.heap.size + 1, 1, none⟩ (.int .i64 0)).setCell ⟨w.heap.size + 1, 2, none⟩ (.int .i64 0)).drew.ownsRow w.heap.size 57 3 (.slice sa ln sc) x.args.length (flatC x.args)) := Lib.hid (by have h9 := World.ownsRow.mono (KT.own (by decide) HVV.out) HZZ.out; rw [HLN.out] at h9 ⊢; exact h9)
    clear KT k3 hw3 h3 hf3 hb0 hp3 KT1 KT2 hh2 hf4 hcc hvv hc3
    go_upto_region 5 with fail
    go_region
    all_goals
      go_wp2
      refine bodyPost_ret (results_two_rows rfl _ _ w.heap.size (w.heap.size + 1) 46 27 #[.string ⟨x.pred.toArray⟩, .slice sa ln sc] #[.int .i64 0, .int .i64 0, .int .i64 0] (0, 0) (0, 0) _ _ rfl HP4.out Tryz.underlying46 rfl Tryz.size46 rfl HF4.out Tryz.underlying27 rfl Tryz.size25) rfl ?_
      exact ⟨_, HRES.out, HBZ.out, _, rfl, HVZ.out⟩
end Go.Proofs.YtncdjkdpoinfaaaGreatDoor
/-
  The law's lists of tokens in memory. No condition beyond those that each lemma states.
-/
namespace Go.Proofs.YtncdjkdpoinfaaaGreatDoor
open Go.RowKit Go.Shelf Pl

/-- An expected token's cells. -/
def evV (x : Gr.Ev) : List Value := [.int .i64 (x.kind : Int), .string ⟨x.text.toArray⟩, .int .i64 x.int, .int .i64 (x.op : Int), .int .i64 (x.off : Int), .int .i64 x.fin]
def exV (e : Gr.Ex) : List Value := evV (Gr.ev e)
theorem evV_one (x : Gr.Ev) : ∀ u ∈ evV x, u.oneCell' = true := by
  intro u hu
  simp only [evV, List.mem_cons, List.not_mem_nil, or_false] at hu
  rcases hu with rfl | rfl | rfl | rfl | rfl | rfl <;> rfl
theorem exV_mk (k : Nat) : exV (Gr.mkE k) = [.int .i64 (k : Int), .string noS, .int .i64 0, .int .i64 0, .int .i64 0, .int .i64 (-1)] := rfl
theorem exV_term (x : Gr.Trm) (h : Gr.TrmOk x) : exV (Gr.flatTerm x) = [.int .i64 (tokKind x.kind : Int), .string ⟨x.text.toArray⟩, .int .i64 x.int, .int .i64 0, .int .i64 (x.off : Int), .int .i64 0] := by
  unfold Gr.flatTerm tokKind
  rcases h with h | h | h | h <;> rw [h] <;> rfl
/-- A list of expected tokens. -/
def OutV (B : Nat) (es : List Gr.Ex) (w : World) (u : Value) : Prop := w.ownsRow B 62 6 u es.length (es.flatMap exV)
theorem OutV.form {B : Nat} {es : List Gr.Ex} {w : World} {u : Value} (h : OutV B es w u) : ∃ a c, u = .slice a es.length c := by
  rcases Joins.ownsRow_forms h with ⟨h5, h6⟩ | ⟨g, cap, h5⟩
  · exact ⟨none, 0, by rw [h5, h6]⟩
  · exact ⟨_, cap, h5⟩
theorem OutV.kt {B : Nat} {es : List Gr.Ex} {w w' : World} {u : Value} {Q : TypeId → Prop} (h : OutV B es w u) (k : Kt Q w w') (hQ : Q 62) : OutV B es w' u := k.own hQ h
theorem OutV.mono {B B' : Nat} {es : List Gr.Ex} {w : World} {u : Value} (h : OutV B es w u) (hb : B' ≤ B) : OutV B' es w u := World.ownsRow.mono h hb
theorem OutV.nil {B : Nat} {w : World} : OutV B [] w (.slice none 0 0) := ⟨rfl, .inl ⟨rfl, rfl⟩⟩
/-- One more. -/
theorem OutV.snoc {B : Nat} {es : List Gr.Ex} {e : Gr.Ex} {w5 : World} {v' : Value} (h : w5.ownsRow B 62 6 v' (es.length + 1) (es.flatMap exV ++ exV e)) : OutV B (es ++ [e]) w5 v' := by
  unfold OutV
  rw [List.length_append, List.length_singleton, List.flatMap_append]
  simpa using h
theorem OutV.more {B : Nat} {es fs : List Gr.Ex} {w5 : World} {v' : Value} (h : w5.ownsRow B 62 6 v' (es.length + fs.length) (es.flatMap exV ++ fs.flatMap exV)) : OutV B (es ++ fs) w5 v' := by
  unfold OutV
  rw [List.length_append, List.flatMap_append]
  exact h
/-- What a function of the law that makes tokens ends with. -/
def OutIs (w : World) (es : List Gr.Ex) (e : Ending) (w' : World) : Prop := ∃ u, e = .returned u ∧ OutV w.heap.size es w' u ∧ Below w.heap.size w w'
theorem grown_below {B t m n : Nat} {w0 w w' : World} {v : Value} {xs : List Value} (hb : Below w0.heap.size w0 w) (h : w.grownBy w' v.ownBlock) (ho : w.ownsRow B t m v n xs) (hB : w0.heap.size ≤ B) : Below w0.heap.size w0 w' := by
  refine ⟨h.os.trans hb.os, h.tape.trans hb.tape, h.output.trans hb.output, Nat.le_trans hb.size h.size, fun k hk => ?_⟩
  rw [h.block k (Nat.lt_of_lt_of_le hk hb.size) (fun e => by have := (World.ownsRow.lt ho k e.symm).1; omega)]
  exact hb.block k hk
theorem out_cells {B n cap g : Nat} {es : List Gr.Ex} {w : World} (h : OutV B es w (.slice (some ⟨g, 0, none⟩) n cap)) : ∀ j u, (es.flatMap exV)[j]? = some u → w.cell? ((⟨g, 0, none⟩ : Addr).add j) = some u :=
  World.ownsRow.cells h rfl
theorem ex_one (es : List Gr.Ex) : ∀ u ∈ es.flatMap exV, u.oneCell' = true := by
  intro u hu
  obtain ⟨e, _, h⟩ := List.mem_flatMap.1 hu
  exact evV_one _ u h
theorem ex_len (es : List Gr.Ex) : (es.flatMap exV).length = es.length * 6 := by
  induction es with
  | nil => rfl
  | cons e es ih => simp only [List.flatMap_cons, List.length_append, ih, List.length_cons]; simp only [exV, evV, List.length_cons, List.length_nil]; omega
end Go.Proofs.YtncdjkdpoinfaaaGreatDoor
