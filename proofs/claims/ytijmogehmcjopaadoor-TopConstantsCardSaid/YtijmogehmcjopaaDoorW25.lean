/-
  The walk of the table's Ranks. Conditions: the table as it stands, its constants different ones, at most 65536.
-/
import Derived.Test.YtijmogehmcjopaaDoorW24
namespace Go.Proofs.YtijmogehmcjopaaDoor
open Go.RowKit Ct

/-- The ids in the order of their constants. -/
def Ord (ids : List Cn) (order : List Nat) : Prop := order.Perm (List.range ids.length) ∧ order.Pairwise (fun i j => LtC (ids.getD i cn0) (ids.getD j cn0))
theorem Ord.uniq {ids : List Cn} {a b : List Nat} (h : Ord ids a) (k : Ord ids b) : a = b := by
  have hp : a.Perm b := h.1.trans k.1.symm
  have h2 := h.2
  have k2 := k.2
  clear h k
  induction a generalizing b with
  | nil => exact (List.nil_perm.1 hp).symm
  | cons x a ih =>
    cases b with
    | nil => exact absurd (List.perm_nil.1 hp) (by simp)
    | cons y b =>
      have hxy : x = y := by
        have hx : x ∈ y :: b := hp.mem_iff.1 (by simp)
        have hy : y ∈ x :: a := hp.mem_iff.2 (by simp)
        rcases List.mem_cons.1 hx with e | hx
        · exact e
        · rcases List.mem_cons.1 hy with e | hy
          · exact e.symm
          · exact absurd (ltC_trans ((List.pairwise_cons.1 h2).1 y hy) ((List.pairwise_cons.1 k2).1 x hx)) (ltC_irr _)
      subst hxy
      rw [ih ((List.perm_cons x).1 hp) (List.pairwise_cons.1 h2).2 (List.pairwise_cons.1 k2).2]
theorem Ord.len {ids : List Cn} {a : List Nat} (h : Ord ids a) : a.length = ids.length := by rw [h.1.length_eq]; simp
theorem Ord.lt {ids : List Cn} {a : List Nat} (h : Ord ids a) {i : Nat} (hi : i < a.length) : a[i] < ids.length := by
  have := h.1.mem_iff.1 (List.getElem_mem hi)
  simpa using this
theorem Ord.inj {ids : List Cn} {a : List Nat} (h : Ord ids a) {i j : Nat} (hi : i < a.length) (hj : j < a.length) (e : a[i] = a[j]) : i = j := by
  have hn : a.Nodup := h.1.nodup_iff.2 List.nodup_range
  rcases Nat.lt_trichotomy i j with h1 | h1 | h1
  · exact absurd e (List.pairwise_iff_getElem.1 hn i j hi hj h1)
  · exact h1
  · exact absurd e.symm (List.pairwise_iff_getElem.1 hn j i hj hi h1)
theorem sorted_ord {D X M : Nat} {v : Value} {ids : List Cn} {w : World} (h : Tbl D X M v ids w) (hlen : ids.length ≤ 65536) (hd : ids.Nodup) :
    Calls Tryd.prog 17 #[.pointer (some ⟨X, 0, none⟩)] w fun e w' => ∃ o, e = .returned o ∧ (∃ order : List Nat, Ord ids order ∧ w'.ownsRow w.heap.size 3 1 o ids.length (intL order)) ∧ Below w.heap.size w w' :=
  (callsIn_wide.1 (sorted_any h hlen hd)).mono fun e w' ⟨o, he, ⟨order, h1, h2, h3⟩, hb⟩ => ⟨o, he, ⟨order, ⟨h1, h2⟩, h3⟩, hb⟩
/-- The ranks' block, as far as the first k are written. -/
def RkAt (w : World) (r n : Nat) (order : List Nat) (k : Nat) : Prop := ∃ L : List Value, L.length = n ∧ w.heap[r]? = some (.cells L.toArray 3) ∧ ∀ j (hj : j < order.length), j < k → L[order[j]]? = some (.int .i64 (j : Int))

set_option maxRecDepth 100000 in
set_option maxHeartbeats 3200000 in
theorem ranks_any {D X M : Nat} {v : Value} {ids : List Cn} {w : World} (h : Tbl D X M v ids w) (hlen : ids.length ≤ 65536) (hd : ids.Nodup) :
    Calls Tryd.prog 18 #[.pointer (some ⟨X, 0, none⟩)] w fun e w' => ∃ r order, e = .returned (.slice (some ⟨r, 0, none⟩) ids.length ids.length) ∧ Ord ids order ∧ RkAt w' r ids.length order ids.length ∧ Below w.heap.size w w' := by
  have hl := len_any h
  obtain ⟨n, hn⟩ : ∃ n, n = ids.length := ⟨_, rfl⟩
  rw [← hn] at hl ⊢
  have HN := Lib.hid hn
  have hn65 : n ≤ 65536 := by omega
  clear hn
  obtain ⟨i0, hi, hz0, hz1, hz2⟩ := info_parts info3
  obtain ⟨w1, hmk, hown, hgr⟩ := run_makeSlice_full w w.heap.size 44 3 i0 (.int .i64 0) 1 Tryd.underlying44 hi hz0 hz1 .i64 .i64 n (by omega) (by rw [hz2]; omega) (by unfold maxLen; omega) (Nat.le_refl _)
  have hb1 : Below w.heap.size w w1 := ⟨hgr.os, hgr.tape, hgr.output, hgr.size, fun k hk => hgr.block k hk (by simp)⟩
  obtain ⟨cur, hr, hcs⟩ : ∃ cur, w1.heap[w.heap.size]? = some (.cells cur 3) ∧ cur.size = n := by
    rcases hown.2 with ⟨h1, _⟩ | ⟨g, cap, cur, h1, _, hg, _, _, hcs, _⟩
    · cases h1
    · injection h1 with h1 h2 h3; injection h1 with h1; injection h1 with h1; subst h1; subst h3; exact ⟨cur, hg, by simpa using hcs⟩
  obtain ⟨r, hrr⟩ : ∃ r, r = w.heap.size := ⟨_, rfl⟩
  have HR := Lib.hid hrr
  rw [← hrr] at hr hmk
  have hs := sorted_ord (h.up hb1) hlen hd
  have HT := Lib.hid h
  have HB1 := Lib.hid hb1
  have hrl : r < w1.heap.size := heap_lt hr
  clear hown hgr hrr hb1 h hz0 hz1 hz2 hi
  go_enter Tryd.func18, Tryd.ntmps18
  go_upto_region 4 with (go_at_call 12; refine hl.mono ?_; rintro e w' ⟨rfl, hw⟩; rw [hw]; clear hw)
  clear hmk
  go_upto_region 5 with (go_at_call 17; refine hs.mono ?_; rintro e w2 ⟨o, rfl, ⟨order, ho, hrow⟩, hb2⟩; obtain ⟨ao, cap, rfl⟩ := own_form hrow; rw [← HN.out] at hrow ⊢)
  have hol : order.length = n := by rw [ho.len, HN.out]
  have HO := Lib.hid ho
  have HOL := Lib.hid hol
  have HROW := Lib.hid hrow
  have HB2 := Lib.hid hb2
  have HRK : Hid (RkAt w2 r n order 0) := Lib.hid ⟨cur.toList, by simpa using hcs, (hb2.block r hrl).trans hr, fun j _ hj => by omega⟩
  clear ho hol hrow hb2 hs hr hcs hl
  go_loopw [16] (fun k wr => ∃ q : Nat, k = .int .i64 (q : Int) ∧ q ≤ n ∧ Hid (RkAt wr r n order q) ∧ Hid (w2.grownBy wr (some r))) (fun k _ => n - (intOf k).toNat)
  case atStart => exact ⟨0, rfl, by omega, HRK, Lib.hid ⟨rfl, rfl, rfl, Nat.le_refl _, fun _ _ _ => rfl⟩⟩
  case round =>
    obtain ⟨q, rfl, hq, HK, HG⟩ := hrel
    by_cases hqn : q < n
    · have hqI : (q : Int) < (n : Int) := by omega
      have hq0 : (0 : Int) ≤ (q : Int) := by omega
      have hw1 : IntKind.i64.wrap ((q : Int) + 1) = (q : Int) + 1 := by rw [IntKind.wrap_i64]; omega
      obtain ⟨g, cap', hg⟩ := Joins.ownsRow_form HROW.out (by omega)
      injection hg with hg _ _
      subst hg
      have hqo : q < order.length := by rw [HOL.out]; exact hqn
      obtain ⟨id, hid⟩ : ∃ id, id = order[q] := ⟨_, rfl⟩
      have hidn : id < n := by rw [hid, HN.out]; exact HO.out.lt hqo
      have hgl := HROW.out.lt g rfl
      have hgr : g ≠ r := by omega
      have hcq : wr.cell? ⟨g, q, none⟩ = some (.int .i64 (id : Int)) := by
        have h1 := HROW.out.cells (g := g) rfl q (.int .i64 (id : Int)) (by simp [intL, hqo, hid])
        rw [add_zero'] at h1
        exact (World.cell?_of_block (HG.out.block g hgl.2 (by simpa using hgr))).trans h1
      obtain ⟨L, hLn, hLb, hLc⟩ := HK.out
      have hidI : (id : Int) < (n : Int) := by omega
      have hid0 : (0 : Int) ≤ (id : Int) := by omega
      obtain ⟨y, hy⟩ : ∃ y, L[id]? = some y := ⟨_, List.getElem?_eq_getElem (by omega)⟩
      have hci : wr.cell? ⟨r, id, none⟩ = some y := by simp [World.cell?, hLb, hy]
      have hfi : wr.frozen? ⟨r, id, none⟩ = false := by simp [World.frozen?, hLb]
      have HK2 : Hid (RkAt (wr.setCell ⟨r, id, none⟩ (.int .i64 (q : Int))) r n order (q + 1)) := Lib.hid ⟨L.set id (.int .i64 (q : Int)), by simpa using hLn, by simp [World.setCell, Array.getElem?_modify, hLb], fun j hj hjq => by
        by_cases e : j = q
        · subst e
          rw [← hid, List.getElem?_set_self (by omega)]
        · have hne : order[j] ≠ id := fun e2 => e (HO.out.inj hj hqo (by rw [e2, hid]))
          rw [List.getElem?_set_ne (Ne.symm hne)]
          exact hLc j hj (by omega)⟩
      have HG2 : Hid (w2.grownBy (wr.setCell ⟨r, id, none⟩ (.int .i64 (q : Int))) (some r)) := Lib.hid ⟨HG.out.os, HG.out.tape, HG.out.output, by simpa [World.setCell] using HG.out.size, fun k hk hne => (Below.heap_setCell _ _ _ _ (fun e => hne (by rw [e]))).trans (HG.out.block k hk hne)⟩
      clear hid hLn hLb hLc hqo hgl hy
      go_wp2
      go_round
      case rel => exact ⟨q + 1, by go_num, by omega, HK2, HG2⟩
      case measure => simp only [intOf]; omega
    · have hqe : q = n := by omega
      have hqI : ¬ (q : Int) < (n : Int) := by omega
      have HK2 : Hid (RkAt wr r n order n) := Lib.hid (by have h := HK.out; rw [hqe] at h; exact h)
      clear hqe hq
      go_wp2
      all_goals go_ret
      refine ⟨r, rfl, order, HO.out, HK2.out, ?_⟩
      have h1 : Below w.heap.size w w2 := HB1.out.trans (HB2.out.mono HB1.out.size)
      exact h1.grown HG.out h1.size (fun k e => by cases e; have := HR.out; omega)
end Go.Proofs.YtijmogehmcjopaaDoor
