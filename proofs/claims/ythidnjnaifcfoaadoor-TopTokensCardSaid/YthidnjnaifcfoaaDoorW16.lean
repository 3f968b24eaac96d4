/-
  The walk of the function that lex.Scan hands to lex.Each: a token more. Conditions: the list lies in memory of its own.
-/
import Derived.Test.YthidnjnaifcfoaaDoorW15
import Derived.Deep.AppendLies
namespace Go.Proofs.YthidnjnaifcfoaaDoor
open Go.RowKit Go.Shelf Pl

/-- Of what there was, some blocks alone may have turned. -/
structure Oth (ex : Nat → Prop) (w w' : World) : Prop where
  os : w'.os = w.os
  tape : w'.tape = w.tape
  output : w'.output = w.output
  size : w.heap.size ≤ w'.heap.size
  block : ∀ k, k < w.heap.size → ¬ ex k → w'.heap[k]? = w.heap[k]?
/-- A token's cells. -/
def tkV (t : Tk) : List Value := [.int .i64 (t.kind : Int), .string ⟨t.text.toArray⟩, .int .i64 t.int, .int .i64 (t.op : Int), .int .i64 (t.off : Int), .int .i64 (t.fin : Int)]
def flatT (ts : List Tk) : List Value := ts.flatMap tkV
theorem flatT_len (ts : List Tk) : (flatT ts).length = ts.length * 6 := by
  induction ts with
  | nil => rfl
  | cons t ts ih => simp only [flatT, List.flatMap_cons, List.length_append, List.length_cons] at ih ⊢; rw [ih]; simp only [tkV, List.length_cons, List.length_nil]; omega
theorem flatT_snoc (ts : List Tk) (t : Tk) : flatT (ts ++ [t]) = flatT ts ++ tkV t := by simp [flatT]
theorem tkV_one (t : Tk) : ∀ u ∈ tkV t, u.oneCell' = true := by
  intro u hu
  simp only [tkV, List.mem_cons, List.not_mem_nil, or_false] at hu
  rcases hu with rfl | rfl | rfl | rfl | rfl | rfl <;> rfl
theorem Tryd.info32 : (Tryd.prog.info? 32).map (fun i => (i.zero, i.size, i.bytes)) = some (some (.agg #[.int .i64 0, .string noS, .int .i64 0, .int .i64 0, .int .i64 0, .int .i64 0]), 6, 56) := by kernel_rfl

theorem clo_after {C n : Nat} {w w5 : World} {v v' : Value} {xs ys : List Value} {o p : Obj} (hC : w.heap[C]? = some (.cells #[v] 22)) (hown : w.ownsRow (C + 1) 32 6 v n xs)
    (hown' : w5.ownsRow (C + 1) 32 6 v' (n + 1) ys) (hgrow : ((w.alloc o).alloc p).grownBy w5 v.ownBlock) :
    Hid (w5.cell? ⟨C, 0, none⟩ = some v ∧ w5.frozen? ⟨C, 0, none⟩ = false ∧ (∀ u : Value, (w5.setCell ⟨C, 0, none⟩ u).heap[C]? = some (.cells #[u] 22)) ∧ (∀ u : Value, (w5.setCell ⟨C, 0, none⟩ u).ownsRow (C + 1) 32 6 v' (n + 1) ys) ∧
      ∀ u : Value, Oth (fun k => k = C ∨ some k = v.ownBlock) w (w5.setCell ⟨C, 0, none⟩ u)) := by
  have hCz : C < w.heap.size := (Array.getElem?_eq_some_iff.1 hC).1
  have hv := World.ownsRow.lt hown
  have hblk : ∀ k, k < w.heap.size → some k ≠ v.ownBlock → w5.heap[k]? = w.heap[k]? := fun k hk hne => by
    rw [hgrow.block k (by simp; omega) hne, Below.heap_alloc _ _ _ (by simp; omega), Below.heap_alloc _ _ _ hk]
  have h5 : w5.heap[C]? = some (.cells #[v] 22) := by
    rw [hblk C hCz (fun e => by have := (hv C e.symm).1; omega)]; exact hC
  refine ⟨by simp only [World.cell?, h5]; rfl, by simp only [World.frozen?, h5]; rfl, fun u => ?_, fun u => ?_, fun u => ?_⟩
  · simp [World.setCell, Array.getElem?_modify, h5]
  · exact ownsRow_setCell_below hown' (by simp) u
  · refine ⟨hgrow.os, hgrow.tape, hgrow.output, by have := hgrow.size; simp [World.setCell] at this ⊢; omega, fun k hk hx => ?_⟩
    rw [Below.heap_setCell _ _ _ _ (fun e => hx (.inl e))]
    exact hblk k hk (fun e => hx (.inr e))

set_option maxRecDepth 100000 in
set_option maxHeartbeats 3200000 in
theorem clo_any (C : Nat) (w : World) (v : Value) (ts : List Tk) (t : Tk) (hC : w.heap[C]? = some (.cells #[v] 22)) (hown : w.ownsRow (C + 1) 32 6 v ts.length (flatT ts)) (hn : ts.length ≤ 70000) :
    Calls Tryd.prog 8 #[.agg #[.int .i64 (t.kind : Int), .string ⟨t.text.toArray⟩, .int .i64 t.int, .int .i64 (t.op : Int), .int .i64 (t.off : Int), .int .i64 (t.fin : Int)], .pointer (some ⟨C, 0, none⟩)] w fun e w' =>
      e = .returned (.bool true) ∧ (∃ v', w'.heap[C]? = some (.cells #[v'] 22) ∧ w'.ownsRow (C + 1) 32 6 v' (ts.length + 1) (flatT (ts ++ [t]))) ∧ Oth (fun k => k = C ∨ some k = v.ownBlock) w w' := by
  obtain ⟨i32, bi, b0, b1, b2⟩ := info_parts Tryd.info32
  have hCz : C < w.heap.size := (Array.getElem?_eq_some_iff.1 hC).1
  have c0 : w.cell? ⟨C, 0, none⟩ = some v := by simp only [World.cell?, hC]; rfl
  have f0 : w.frozen? ⟨C, 0, none⟩ = false := by simp only [World.frozen?, hC]; rfl
  have HC := Lib.hid hC
  have HO := Lib.hid hown
  clear hC hown
  obtain ⟨kd, hkd⟩ : ∃ kd : Int, kd = (t.kind : Int) := ⟨_, rfl⟩
  obtain ⟨tx, htx⟩ : ∃ tx : ByteArray, tx = ⟨t.text.toArray⟩ := ⟨_, rfl⟩
  obtain ⟨iv, hiv⟩ : ∃ iv : Int, iv = t.int := ⟨_, rfl⟩
  obtain ⟨ov, hov⟩ : ∃ ov : Int, ov = (t.op : Int) := ⟨_, rfl⟩
  obtain ⟨fv, hfv⟩ : ∃ fv : Int, fv = (t.off : Int) := ⟨_, rfl⟩
  obtain ⟨ev, hev⟩ : ∃ ev : Int, ev = (t.fin : Int) := ⟨_, rfl⟩
  rw [← hkd, ← htx, ← hiv, ← hov, ← hfv, ← hev]
  have HTK : Hid (tkV t = [.int .i64 kd, .string tx, .int .i64 iv, .int .i64 ov, .int .i64 fv, .int .i64 ev]) := Lib.hid (by rw [hkd, htx, hiv, hov, hfv, hev]; rfl)
  have HT1 := Lib.hid (tkV_one t)
  rw [HTK.out] at HT1
  clear hkd htx hiv hov hfv hev
  have hh1 := World.ownsRow.alloc (World.ownsRow.alloc HO.out (.cells #[.int .i64 kd, .string tx, .int .i64 iv, .int .i64 ov, .int .i64 fv, .int .i64 ev] 32)) (.cells #[.int .i64 kd, .string tx, .int .i64 iv, .int .i64 ov, .int .i64 fv, .int .i64 ev] 32)
  have hzA : (w.alloc (.cells #[.int .i64 kd, .string tx, .int .i64 iv, .int .i64 ov, .int .i64 fv, .int .i64 ev] 32)).heap.size = w.heap.size + 1 := by simp
  have HH1 := Lib.hid hh1
  have hh5 : ts.length + 1 ≤ maxLen := by unfold maxLen; omega
  have hh4 : (ts.length + 1) * 56 ≤ 140737488355328 := by omega
  have hh3 : C + 1 ≤ ((w.alloc (.cells #[.int .i64 kd, .string tx, .int .i64 iv, .int .i64 ov, .int .i64 fv, .int .i64 ev] 32)).alloc (.cells #[.int .i64 kd, .string tx, .int .i64 iv, .int .i64 ov, .int .i64 fv, .int .i64 ev] 32)).heap.size := by simp; omega
  clear hh1
  go_enter Tryd.func8, Tryd.ntmps8
  go_wp2_with (at_builtin; refine wpList_append_own _ rfl _ _ 22 rfl (C + 1) 32 i32 (.agg #[.int .i64 0, .string noS, .int .i64 0, .int .i64 0, .int .i64 0, .int .i64 0]) 6 56 Tryd.underlying22 bi b0 b1 b2 rfl (by decide) v ts.length (flatT ts) rfl HH1.out ⟨w.heap.size + 1, 0, none⟩ 1 1 [.int .i64 kd, .string tx, .int .i64 iv, .int .i64 ov, .int .i64 fv, .int .i64 ev] rfl rfl (by rw [← hzA]; exact World.news_of_block (cs := #[.int .i64 kd, .string tx, .int .i64 iv, .int .i64 ov, .int .i64 fv, .int .i64 ev]) (t := 32) (fr := (0, 0)) (heap_alloc_new _ _)) HT1.out hh5 hh4 hh3 ?_; intro v' w5 hown' hgrow hnl; have HP := clo_after HC.out HO.out hown' hgrow; have z0 := HP.out.1; have zf := HP.out.2.1; obtain ⟨g', c', rfl⟩ := Joins.ownsRow_form hown' (by omega))
  go_ret
  refine ⟨rfl, ⟨.slice (some ⟨g', 0, none⟩) (ts.length + 1) c', ?_, ?_⟩, ?_⟩
  · exact HP.out.2.2.1 _
  · rw [flatT_snoc, HTK.out]; exact HP.out.2.2.2.1 _
  · exact HP.out.2.2.2.2 _
end Go.Proofs.YthidnjnaifcfoaaDoor
