/-
  The walks of a store's Len, Num, Has, Of, Where. Conditions: sizes within the form's own reach.
-/
import Derived.Test.YtmkoejpdoeblkaaW13
import Derived.Laws.ResultCell
namespace Go.Proofs.Ytmkoejpdoeblkaa
open Go.RowKit Pl

theorem rows_form {w : World} {G : Nat → Rl} {rv : Value} {l : List Rw} (h : RowsP w G rv l) : ∃ a c, rv = .slice a l.length c ∧ (l ≠ [] → ∃ g, a = some ⟨g, 0, none⟩) := by
  obtain ⟨us, bs, hr⟩ := h
  rcases Joins.ownsRow_forms hr.row with ⟨h1, h2⟩ | ⟨g, cap, h1⟩
  · exact ⟨none, 0, by rw [h1]; simp [h2], fun hne => absurd (List.length_eq_zero_iff.1 h2) hne⟩
  · exact ⟨_, cap, h1, fun _ => ⟨g, rfl⟩⟩
section
variable {G : Nat → Rl} {X : Nat} {A : List Int} {l : List Rw} {fs : List Value} {V : SV}
set_option maxRecDepth 100000 in
theorem len_any (w : World) (h : StoreAt G X A l fs V w) : Calls Try.prog 22 #[.pointer (some ⟨X, 0, none⟩)] w fun e w' => e = .returned (.int .i64 (l.length : Int)) ∧ w = w' := by
  obtain ⟨ra, rc, hrv, _⟩ := rows_form h.rows
  have x1 : w.cell? ⟨X, 1, none⟩ = some (.slice ra l.length rc) := by rw [← hrv]; exact h.blk.cells.2.1
  clear h hrv
  go_enter Try.func22, Try.ntmps22
  go_wp2
  go_ret
  exact ⟨rfl, rfl⟩

set_option maxRecDepth 100000 in
set_option maxHeartbeats 1600000 in
theorem of_any (w : World) (h : StoreAt G X A l fs V w) (p : Int) (hp : I64 p) (hN : V.N ≤ 4194304) : Calls Try.prog 27 #[.pointer (some ⟨X, 0, none⟩), .int .i64 p] w (CloneIs (pick (ofQ p) l) w) := by
  have x4 := h.blk.cells.2.2.2.2.1
  obtain ⟨f, hf⟩ := h.of
  have hv := hf.vals p hp
  have hl := hf.map.look Try.law3 Try.underlying47 (Try.zero22 w) (ok3 hp) false
  have hlen := Nat.le_trans (pick_len (ofQ p) l) h.len
  obtain ⟨L, hL⟩ : ∃ L, L = pick (ofQ p) l := ⟨_, rfl⟩
  simp only [← hL] at hv
  rw [← hL] at hlen ⊢
  obtain ⟨va, vc, hva, _⟩ := hv.form
  have hl2 : (Instr.lookup 47 (.map (some V.bo)) (.int .i64 p) false).run Try.prog w = .ok (.slice va L.length vc) w := by
    rw [hl, ← hva]; rfl
  rw [hva] at hv
  have HV := Lib.hid hv.in.all
  clear h hf hv hl hL hva
  go_enter Try.func27, Try.ntmps27
  go_wp2_with fail
  refine (clone_any L _ _ HV.out (by omega)).mono ?_
  rintro e w2 ⟨v2, rfl, ho, hb⟩
  have HO := Lib.hid ho
  have HB := Lib.hid hb
  clear ho hb
  go_wp2
  go_ret
  exact ⟨v2, rfl, HO.out, HB.out⟩

set_option maxRecDepth 100000 in
set_option maxHeartbeats 1600000 in
theorem where_any (w : World) (h : StoreAt G X A l fs V w) (p : Int) (i : Nat) (d : Int) (hg : whF.good (p, i, d)) (hN : V.N ≤ 4194304) : Calls Try.prog 28 #[.pointer (some ⟨X, 0, none⟩), .int .i64 p, .int .i64 (i : Int), .int .i64 d] w (CloneIs (pick (whQ (p, i, d)) l) w) := by
  have x4 := h.blk.cells.2.2.2.2.2.1
  obtain ⟨f, hf⟩ := h.whr
  have hv := hf.vals (p, i, d) hg
  have hl := hf.map.look (Go.Maps.Keyed.of_law Try.law72) Try.underlying48 (Try.zero22 w) (whF.ok _ hg) false
  have hlen := Nat.le_trans (pick_len (whQ (p, i, d)) l) h.len
  obtain ⟨L, hL⟩ : ∃ L, L = pick (whQ (p, i, d)) l := ⟨_, rfl⟩
  simp only [← hL] at hv
  rw [← hL] at hlen ⊢
  obtain ⟨va, vc, hva, _⟩ := hv.form
  have hl2 : (Instr.lookup 48 (.map (some V.bw)) (.agg #[.int .i64 p, .int .i64 (i : Int), .int .i64 d]) false).run Try.prog w = .ok (.slice va L.length vc) w := by
    refine Eq.trans hl ?_
    rw [← hva]; rfl
  rw [hva] at hv
  have HV := Lib.hid hv.in.all
  clear h hf hv hl hL hva
  go_enter Try.func28, Try.ntmps28
  go_wp2_with fail
  refine (clone_any L _ _ HV.out (by omega)).mono ?_
  rintro e w2 ⟨v2, rfl, ho, hb⟩
  have HO := Lib.hid ho
  have HB := Lib.hid hb
  clear ho hb
  go_wp2
  go_ret
  exact ⟨v2, rfl, HO.out, HB.out⟩

set_option maxRecDepth 100000 in
set_option maxHeartbeats 3200000 in
theorem num_any (w : World) (h : StoreAt G X A l fs V w) (r : Rw) (y : Value) (hy : RowIn w All y r) (hr : okRow r) : Calls Try.prog 23 #[.pointer (some ⟨X, 0, none⟩), y] w (IntIs w (rowNo l r)) := by
  obtain ⟨N, hN⟩ : ∃ N, N = rowNo l r := ⟨_, rfl⟩
  rw [← hN]
  have HN := Lib.hid hN
  clear hN
  obtain ⟨u, rfl, hu⟩ := hy
  obtain ⟨sp, sl⟩ := r
  simp only at hu
  obtain ⟨ua, uc, rfl, _⟩ := hu.form
  have hXl := h.blk.lt
  obtain ⟨w1, hw1⟩ : ∃ w1, w1 = w.alloc (.cells #[.int .i64 sp, .slice ua sl.length uc] 34) := ⟨_, rfl⟩
  have hb1 : Below w.heap.size w w1 := by rw [hw1]; exact up_alloc _ _
  have q1 : w1.heap[w.heap.size]? = some (.cells #[.int .i64 sp, .slice ua sl.length uc] 34) := by rw [hw1]; exact heap_alloc_new _ _
  obtain ⟨c10, hc10⟩ : ∃ c10, c10 = w.heap.size := ⟨_, rfl⟩
  rw [← hc10] at q1
  obtain ⟨x0, x1, _, _⟩ := row2 q1
  have HS := Lib.hid h
  have HR := Lib.hid hr
  have HU := Lib.hid (hu.below hb1)
  have HB1 := Lib.hid hb1
  have HW1 := Lib.hid hw1
  have HQ1 := Lib.hid q1
  have HC10 := Lib.hid hc10
  clear h hr hu hb1 hw1 q1 hc10
  go_enter Try.func23, Try.ntmps23
  go_wp2_with fail
  rw [← HC10.out, ← HW1.out]
  refine (fits_any A (sp, sl) X V.av _ w1 (Nat.lt_of_lt_of_le hXl HB1.out.size) ((HB1.out.cell (p := ⟨X, 0, none⟩) hXl).trans HS.out.blk.cells.1) (HS.out.ars.in.all.below HB1.out) (okA_len HS.out.okA) ⟨_, rfl, HU.out.all⟩ HR.out.2.2).mono ?_
  rintro e w2 ⟨rfl, hb2⟩
  have HB2 := Lib.hid (HB1.out.trans (hb2.mono HB1.out.size))
  obtain ⟨z0, z1, _, _⟩ := row2 ((hb2.block c10 (Array.getElem?_eq_some_iff.1 HQ1.out).1).trans HQ1.out)
  have HQ2 := Lib.hid ((hb2.block c10 (Array.getElem?_eq_some_iff.1 HQ1.out).1).trans HQ1.out)
  have HU2 := Lib.hid (HU.out.below hb2)
  clear hb2 x0 x1
  cases hfb : fitsB A (sp, sl) with
  | false =>
    have HV : Hid (N = -1) := Lib.hid (by
      rw [HN.out]
      exact rowNo_none (fun hm => by rw [(HS.out.fits _ hm).1] at hfb; cases hfb))
    clear hfb
    go_wp2
    go_ret
    exact ⟨ret_int HV.out.symm, HB2.out⟩
  | true =>
    have h8 := fits_len HS.out.okA hfb
    simp only at h8
    have HFB := Lib.hid hfb
    clear hfb
    go_upto_region 5 with fail
    obtain ⟨W, hW⟩ : ∃ W, W = w2.drew := ⟨_, rfl⟩
    have hbW : Below w2.heap.size w2 W := by rw [hW]; exact drew_below _ _
    have HSW := Lib.hid ((HS.out.up HB2.out).up hbW)
    have HUW := Lib.hid (HU2.out.below hbW).all
    have s10' := (hbW.block c10 (Array.getElem?_eq_some_iff.1 HQ2.out).1).trans HQ2.out
    obtain ⟨bn, hbn⟩ : ∃ bn, bn = V.bn := ⟨_, rfl⟩
    obtain ⟨htn, fn, hmn, hfn⟩ := HSW.out.num
    rw [← hbn] at hmn
    have hlook := fun (x : World) (e : x.heap[bn]? = W.heap[bn]?) => (hmn.same e).look (Go.Maps.Keyed.of_law Try.law58) Try.underlying46 (Try.zero3 x) (okKey_row HR.out) true
    have hfk := hfn (sp, sl) HFB.out HR.out
    obtain ⟨k0, hk0⟩ : ∃ k : Int, k = at' sl 0 := ⟨_, rfl⟩
    obtain ⟨k1, hk1⟩ : ∃ k : Int, k = at' sl 1 := ⟨_, rfl⟩
    obtain ⟨k2, hk2⟩ : ∃ k : Int, k = at' sl 2 := ⟨_, rfl⟩
    obtain ⟨k3, hk3⟩ : ∃ k : Int, k = at' sl 3 := ⟨_, rfl⟩
    obtain ⟨k4, hk4⟩ : ∃ k : Int, k = at' sl 4 := ⟨_, rfl⟩
    obtain ⟨k5, hk5⟩ : ∃ k : Int, k = at' sl 5 := ⟨_, rfl⟩
    obtain ⟨k6, hk6⟩ : ∃ k : Int, k = at' sl 6 := ⟨_, rfl⟩
    obtain ⟨k7, hk7⟩ : ∃ k : Int, k = at' sl 7 := ⟨_, rfl⟩
    have hkv : keyV (sp, sl) = .agg #[.int .i64 sp, .int .i64 k0, .int .i64 k1, .int .i64 k2, .int .i64 k3, .int .i64 k4, .int .i64 k5, .int .i64 k6, .int .i64 k7] := by rw [hk0, hk1, hk2, hk3, hk4, hk5, hk6, hk7]; rfl
    obtain ⟨xn, bi, hxn, hbi2, HRES⟩ : ∃ (xn : Int) (bi : Bool), ((idx l (sp, sl)).map (fun i : Nat => Value.int .i64 (i : Int))).getD (.int .i64 0) = .int .i64 xn ∧ ((idx l (sp, sl)).map (fun i : Nat => Value.int .i64 (i : Int))).isSome = bi ∧ Hid (N = if bi then xn else -1) := by
      cases h9 : idx l (sp, sl) with
      | none => exact ⟨0, false, rfl, rfl, Lib.hid (by rw [HN.out, rowNo, h9]; rfl)⟩
      | some i => exact ⟨_, true, rfl, rfl, Lib.hid (by rw [HN.out, rowNo, h9]; rfl)⟩
    have hS0 : BlkS W [X, bn, c10] W := BlkS.refl _ _
    have HBZ : Hid (∀ b ∈ [X, bn, c10], b < W.heap.size) := Lib.hid (by
      have h1 := HSW.out.blk.lt
      have h2' := hmn.lt
      have h3 := (Array.getElem?_eq_some_iff.1 s10').1
      intro b hb; simp at hb; omega)
    have HCS : Hid (∀ x, BlkS W [X, bn, c10] x → x.cell? ⟨X, 3, none⟩ = some (.map (some bn)) ∧ x.cell? ⟨c10, 0, none⟩ = some (.int .i64 sp) ∧ x.cell? ⟨c10, 1, none⟩ = some (.slice ua sl.length uc) ∧
        (Instr.lookup 46 (.map (some bn)) (.agg #[.int .i64 sp, .int .i64 k0, .int .i64 k1, .int .i64 k2, .int .i64 k3, .int .i64 k4, .int .i64 k5, .int .i64 k6, .int .i64 k7]) true).run Try.prog x = .ok (.tuple #[.int .i64 xn, .bool bi]) x) := Lib.hid (by
      intro x hx
      refine ⟨hx.cell (by simp) ?_, hx.cell (by simp) (row2 s10').1, hx.cell (by simp) (row2 s10').2.1, ?_⟩
      · rw [hbn]; exact HSW.out.blk.cells.2.2.2.1
      · have h9 := hlook x (hx bn (by simp))
        rw [hkv] at h9
        rw [h9, ← hkv, hfk, hxn, hbi2]; rfl)
    have HKV := Lib.hid hkv
    have HBW := Lib.hid (HB2.out.trans (hbW.mono HB2.out.size))
    clear hbW s10' hbn htn hmn hfn hlook hfk hk0 hk1 hk2 hk3 hk4 hk5 hk6 hk7 hkv hxn hbi2 z0 z1
    refine wp_region_TL (BlkS W [X, bn, c10]) 11 (by kernel_rfl) ?_
    rw [← hW]
    clear hW
    refine wpTL_take _ ?_ rfl (by kernel_rfl) (fun _ _ _ h => h) (by assumption) (Or.inl ⟨by rfl, fun x hx => ?_⟩) ?_
    rotate_left
    · obtain ⟨k0_, k1_, k2_, k3_⟩ := HCS.out x hx
      clear hx
      go_simp
      try with_reducible rfl
    simp only [Act.put, List.setIfInBounds_toArray, List.set_cons_zero, List.set_cons_succ]
    refine wpTL_take _ ?_ rfl (by kernel_rfl) (fun _ _ _ h => h) (by assumption) (Or.inl ⟨by rfl, fun x hx => ?_⟩) ?_
    rotate_left
    · obtain ⟨k0_, k1_, k2_, k3_⟩ := HCS.out x hx
      clear hx
      go_simp
      try with_reducible rfl
    simp only [Act.put, List.setIfInBounds_toArray, List.set_cons_zero, List.set_cons_succ]
    refine wpTL_take _ ?_ rfl (by kernel_rfl) (fun _ _ _ h => h) (by assumption) (Or.inl ⟨by rfl, fun x hx => ?_⟩) ?_
    rotate_left
    · obtain ⟨k0_, k1_, k2_, k3_⟩ := HCS.out x hx
      clear hx
      go_simp
      try with_reducible rfl
    simp only [Act.put, List.setIfInBounds_toArray, List.set_cons_zero, List.set_cons_succ]
    refine wpTL_take _ ?_ rfl (by kernel_rfl) (fun _ _ _ h => h) (by assumption) (Or.inl ⟨by rfl, fun x hx => ?_⟩) ?_
    rotate_left
    · obtain ⟨k0_, k1_, k2_, k3_⟩ := HCS.out x hx
      clear hx
      go_simp
      try with_reducible rfl
    simp only [Act.put, List.setIfInBounds_toArray, List.set_cons_zero, List.set_cons_succ]
    refine wpTL_take _ ?_ rfl (by kernel_rfl) (fun _ _ _ h => h) (by assumption) (Or.inl ⟨by rfl, fun x hx => ?_⟩) ?_
    rotate_left
    · obtain ⟨k0_, k1_, k2_, k3_⟩ := HCS.out x hx
      clear hx
      go_simp
      try with_reducible rfl
    simp only [Act.put, List.setIfInBounds_toArray, List.set_cons_zero, List.set_cons_succ]
    refine wpTL_one (by kernel_rfl) (fun K' hK' => ?_)
    go_simp
    go_at_call 19
    refine (keyOf_any (sp, sl) _ _ ⟨_, rfl, HUW.out⟩ h8).mono ?_
    rintro e w5 ⟨rfl, hb5⟩
    rw [HKV.out]
    have hS5 : BlkS W [X, bn, c10] w5 := hS0.below HBZ.out hb5
    have HB5 := Lib.hid (HBW.out.trans (hb5.mono HBW.out.size))
    clear hb5 hS0
    refine hK' _ _ (fun _ => hS5) ?_
    clear hK' K'
    refine wpTL_take _ ?_ rfl (by kernel_rfl) (fun _ _ _ h => h) (by assumption) (Or.inl ⟨by rfl, fun x hx => ?_⟩) ?_
    rotate_left
    · obtain ⟨k0_, k1_, k2_, k3_⟩ := HCS.out x hx
      clear hx
      go_simp
      try with_reducible rfl
    simp only [Act.put, List.setIfInBounds_toArray, List.set_cons_zero, List.set_cons_succ]
    refine wpTL_take _ ?_ rfl (by kernel_rfl) (fun _ _ _ h => h) (by assumption) (Or.inl ⟨by rfl, fun x hx => ?_⟩) ?_
    rotate_left
    · obtain ⟨k0_, k1_, k2_, k3_⟩ := HCS.out x hx
      clear hx
      go_simp
      try with_reducible rfl
    simp only [Act.put, List.setIfInBounds_toArray, List.set_cons_zero, List.set_cons_succ]
    refine wpTL_take _ ?_ rfl (by kernel_rfl) (fun _ _ _ h => h) (by assumption) (Or.inl ⟨by rfl, fun x hx => ?_⟩) ?_
    rotate_left
    · obtain ⟨k0_, k1_, k2_, k3_⟩ := HCS.out x hx
      clear hx
      go_simp
      try with_reducible rfl
    simp only [Act.put, List.setIfInBounds_toArray, List.set_cons_zero, List.set_cons_succ]
    refine wpTL_take _ ?_ rfl (by kernel_rfl) (fun _ _ _ h => h) (by assumption) (Or.inl ⟨by rfl, fun x hx => ?_⟩) ?_
    rotate_left
    · obtain ⟨k0_, k1_, k2_, k3_⟩ := HCS.out x hx
      clear hx
      go_simp
      try with_reducible rfl
    simp only [Act.put, List.setIfInBounds_toArray, List.set_cons_zero, List.set_cons_succ]
    refine wpTL_one (by kernel_rfl) (fun K' hK' => ?_)
    go_simp
    refine hK' _ _ (fun _ => hS5) ?_
    clear hK' K'
    refine wpTL_one (by kernel_rfl) (fun K' hK' => ?_)
    go_simp
    refine hK' _ _ (fun h => absurd rfl h) ?_
    clear hK' K'
    refine wpTL_nil (by kernel_rfl) ?_
    clear HCS HBZ hS5 HSW HUW
    cases bi with
    | true =>
      have HV : Hid (N = xn) := HRES
      clear HRES
      go_wp2
      go_ret
      exact ⟨ret_int HV.out.symm, HB5.out⟩
    | false =>
      have HV : Hid (N = -1) := HRES
      clear HRES
      go_wp2
      go_ret
      exact ⟨ret_int HV.out.symm, HB5.out⟩

set_option maxRecDepth 100000 in
set_option maxHeartbeats 1600000 in
theorem has_any (w : World) (h : StoreAt G X A l fs V w) (r : Rw) (y : Value) (hy : RowIn w All y r) (hr : okRow r) : Calls Try.prog 24 #[.pointer (some ⟨X, 0, none⟩), y] w (BoolIs w (decide (0 ≤ rowNo l r))) := by
  obtain ⟨u, rfl, hu⟩ := hy
  obtain ⟨sp, sl⟩ := r
  simp only at hu
  obtain ⟨ua, uc, rfl, _⟩ := hu.form
  obtain ⟨w1, hw1⟩ : ∃ w1, w1 = w.alloc (.cells #[.int .i64 sp, .slice ua sl.length uc] 34) := ⟨_, rfl⟩
  have hb1 : Below w.heap.size w w1 := by rw [hw1]; exact up_alloc _ _
  have HS := Lib.hid (h.up hb1)
  have HR := Lib.hid hr
  have HU := Lib.hid (hu.below hb1)
  have HB1 := Lib.hid hb1
  have HW1 := Lib.hid hw1
  clear h hr hu hb1 hw1
  go_enter Try.func24, Try.ntmps24
  go_wp2_with fail
  rw [← HW1.out]
  refine (num_any w1 HS.out (sp, sl) _ ⟨_, rfl, HU.out⟩ HR.out).mono ?_
  rintro e w2 ⟨rfl, hb2⟩
  have HB2 := Lib.hid (HB1.out.trans (hb2.mono HB1.out.size))
  obtain ⟨N, hN⟩ : ∃ N, N = rowNo l (sp, sl) := ⟨_, rfl⟩
  rw [← hN]
  have HN := Lib.hid hN
  clear hb2 hN
  go_wp2
  go_ret
  exact ⟨by rw [← HN.out]; rfl, HB2.out⟩

def RowIs (r : Rw) (w : World) (e : Ending) (w' : World) : Prop := ∃ u, e = .returned (.tuple #[.agg #[.int .i64 r.1, u], .int .i64 0]) ∧ OwnInts w' w.heap.size u r.2 ∧ Below w.heap.size w w'

set_option maxRecDepth 100000 in
set_option maxHeartbeats 3200000 in
theorem row_in (w : World) (h : StoreAt G X A l fs V w) (i : Nat) (r : Rw) (hi : l[i]? = some r) (hN : V.N ≤ 4194304) : Calls Try.prog 25 #[.pointer (some ⟨X, 0, none⟩), .int .i64 (i : Int)] w (RowIs r w) := by
  have hil := (List.getElem?_eq_some_iff.1 hi).1
  have hln := h.len
  obtain ⟨ra, rc, hrv, hra⟩ := rows_form h.rows
  obtain ⟨g, rfl⟩ := hra (fun e => by rw [e] at hil; simp at hil)
  obtain ⟨w1, hw1⟩ : ∃ w1, w1 = w.alloc (.cells #[.int .i64 0, .slice none 0 0] 34) := ⟨_, rfl⟩
  have hb1 : Below w.heap.size w w1 := by rw [hw1]; exact up_alloc _ _
  have q1 : w1.heap[w.heap.size]? = some (.cells #[.int .i64 0, .slice none 0 0] 34) := by rw [hw1]; exact heap_alloc_new _ _
  have hz1 : w1.heap.size = w.heap.size + 1 := by rw [hw1]; simp
  have hs1 := h.up hb1
  have x1 : w1.cell? ⟨X, 1, none⟩ = some (.slice (some ⟨g, 0, none⟩) l.length rc) := by rw [← hrv]; exact hs1.blk.cells.2.1
  obtain ⟨us, bs, hr⟩ := hs1.rows
  have hrow := hr.row
  rw [hrv] at hrow
  obtain ⟨u, hu⟩ : ∃ u, us[i]? = some u := ⟨us[i]'(by rw [hr.ul]; exact hil), List.getElem?_eq_getElem _⟩
  obtain ⟨b, hb⟩ : ∃ b, bs[i]? = some b := ⟨bs[i]'(by rw [hr.bl]; exact hil), List.getElem?_eq_getElem _⟩
  obtain ⟨f0, f1, f2⟩ := flat3_get l us bs i r u b hi hu hb
  have y0 : w1.cell? ⟨g, i * 3, none⟩ = some (.int .i64 r.1) := (World.ownsRow.cellAt hrow (i * 3) (by omega)).trans f0
  have y1 : w1.cell? ⟨g, i * 3 + 1, none⟩ = some u := (World.ownsRow.cellAt hrow (i * 3 + 1) (by omega)).trans f1
  have hid := (hr.ids i r u hi hu).in.all
  have hok := (h.fits r (List.mem_of_getElem? hi)).2
  obtain ⟨sp, sl⟩ := r
  simp only at y0 hid
  obtain ⟨ua, uc, rfl, _⟩ := hid.form
  have HU := Lib.hid hid
  have HB1 := Lib.hid hb1
  have HQ1 := Lib.hid q1
  have HOK := Lib.hid hok.2.2
  have HW1 := Lib.hid hw1
  have hd : decide ((i : Int) < 0) = false := decide_eq_false (by omega)
  have hd2 : decide ((i : Int) ≥ (l.length : Int)) = false := decide_eq_false (by omega)
  have hd3 : ¬ l.length ≤ i := by omega
  clear h hrv hra hb1 q1 hs1 hr hrow hu hb f0 f1 f2 hid hok hi hw1
  go_enter Try.func25, Try.ntmps25
  go_upto_region 1 with fail
  rw [← HW1.out]
  go_wp2_with fail
  refine (copied_any (sp, sl) _ _ ⟨_, rfl, HU.out⟩ HOK.out).mono ?_
  rintro e w3 ⟨u', rfl, ho, hb3⟩
  obtain ⟨a', n', c', rfl⟩ := ho.form
  obtain ⟨c10, hc10⟩ : ∃ c10, c10 = w.heap.size := ⟨_, rfl⟩
  have k1 := (hb3.block w.heap.size (by omega)).trans HQ1.out
  obtain ⟨_, _, f0, f1⟩ := row2 k1
  have HK := Lib.hid k1
  have HO := Lib.hid ho
  have HB3 := Lib.hid hb3
  clear k1 ho hb3 hc10 y0 y1 x1
  go_wp2
  refine bodyPost_ret (v := .tuple #[.agg #[.int .i64 sp, .slice a' n' c'], .int .i64 0]) ?_ rfl ?_
  · have k2 := two_set (x := .int .i64 sp) (y := .slice a' n' c') HK.out
    rw [results_cell_tmp rfl]
    have h9 := run_loadVar_row (P := Try.prog) _ w.heap.size 34 34 _ (0, 0) _ k2 Try.underlying34 rfl Try.size34
    simp [asAddr, Result.andThen, h9]
  · refine ⟨_, rfl, (((HO.out.mono (by omega)).set (by simp) _).set (by simp) _).mono (Nat.le_succ _), ((HB1.out.trans (HB3.out.mono (by omega))).setCell (by simp) _).setCell (by simp) _⟩

set_option maxRecDepth 100000 in
set_option maxHeartbeats 3200000 in
theorem row_out (w : World) (h : StoreAt G X A l fs V w) : Calls Try.prog 25 #[.pointer (some ⟨X, 0, none⟩), .int .i64 (l.length : Int)] w fun e w' => e = .returned (.tuple #[.agg #[.int .i64 0, .slice none 0 0], .int .i64 2]) ∧ Below w.heap.size w w' := by
  obtain ⟨ra, rc, hrv, _⟩ := rows_form h.rows
  obtain ⟨w1, hw1⟩ : ∃ w1, w1 = w.alloc (.cells #[.int .i64 0, .slice none 0 0] 34) := ⟨_, rfl⟩
  have hb1 : Below w.heap.size w w1 := by rw [hw1]; exact up_alloc _ _
  have q1 : w1.heap[w.heap.size]? = some (.cells #[.int .i64 0, .slice none 0 0] 34) := by rw [hw1]; exact heap_alloc_new _ _
  have hs1 := h.up hb1
  have x1 : w1.cell? ⟨X, 1, none⟩ = some (.slice ra l.length rc) := by rw [← hrv]; exact hs1.blk.cells.2.1
  obtain ⟨_, _, f0, f1⟩ := row2 q1
  have HB1 := Lib.hid hb1
  have HQ1 := Lib.hid q1
  have HW1 := Lib.hid hw1
  have hd : decide ((l.length : Int) < 0) = false := decide_eq_false (by omega)
  have hd2 : decide ((l.length : Int) ≥ (l.length : Int)) = true := decide_eq_true (by omega)
  clear h hrv hb1 q1 hs1 hw1
  go_enter Try.func25, Try.ntmps25
  go_upto_region 1 with fail
  rw [← HW1.out]
  go_wp2
  refine bodyPost_ret (v := .tuple #[.agg #[.int .i64 0, .slice none 0 0], .int .i64 2]) ?_ rfl ?_
  · have k2 := two_set (x := .int .i64 0) (y := .slice none 0 0) HQ1.out
    rw [results_cell_tmp rfl]
    have h9 := run_loadVar_row (P := Try.prog) _ w.heap.size 34 34 _ (0, 0) _ k2 Try.underlying34 rfl Try.size34
    simp [asAddr, Result.andThen, h9]
  · exact ⟨rfl, (HB1.out.setCell (by simp) _).setCell (by simp) _⟩
end
end Go.Proofs.Ytmkoejpdoeblkaa
