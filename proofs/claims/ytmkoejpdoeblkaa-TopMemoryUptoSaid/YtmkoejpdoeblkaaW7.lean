/-
  The walk of what takes a store's last row out again. Conditions: sizes within the form's own reach.
-/
import Derived.Test.YtmkoejpdoeblkaaK7
import Derived.Test.YtmkoejpdoeblkaaW6
namespace Go.Proofs.Ytmkoejpdoeblkaa
open Go.RowKit Pl

def PopIs (G : Nat → Rl) (X : Nat) (A : List Int) (l : List Rw) (fs : List Value) (V : SV) (w : World) (e : Ending) (w' : World) : Prop :=
  e = .returned (.tuple #[]) ∧ ∃ V', StoreAt G X A l fs V' w' ∧ V'.N = V.N ∧ V'.lv = V.lv ∧ Tr Own G w G w' ∧ V'.uv = V.uv
theorem slice_of_getD {o : Option Value} {a : Option Addr} {n c : Nat} (h : o.getD nilS = .slice a (n + 1) c) : o ≠ none := by
  intro e
  rw [e] at h
  simp [nilS] at h

set_option maxRecDepth 100000 in
set_option maxHeartbeats 3200000 in
theorem pop_any {G : Nat → Rl} {X : Nat} {A : List Int} {l : List Rw} {fs : List Value} {V : SV} {r : Rw} {c0 c1 c2 c3 : Nat} {u : Value} (w : World) (h : StoreAt G X A (l ++ [r]) fs V w) (hc : CloAt w G X l.length r c0 c1 c2 c3 u) (hN : V.N ≤ 4194304) :
    Calls Try.prog 30 #[.pointer (some ⟨c0, 0, none⟩), .pointer (some ⟨c1, 0, none⟩), .pointer (some ⟨c2, 0, none⟩), .pointer (some ⟨c3, 0, none⟩)] w (PopIs G X A l fs V w) := by
  obtain ⟨p, is⟩ := r
  have hln := h.len
  simp only [List.length_append, List.length_singleton] at hln
  have HS := Lib.hid h
  obtain ⟨hf, hk⟩ := h.fits (p, is) (by simp)
  have hnew : (p, is) ∉ l := fun hm => (List.nodup_append.1 h.nodup).2.2 _ hm _ (by simp) rfl
  have h8 := fits_len h.okA hf
  simp only at h8
  obtain ⟨ua, uc, rfl, hua, _⟩ := hc.ids.form
  simp only at hua
  have HF := Lib.hid hf
  have HK := Lib.hid hk
  have HNEW := Lib.hid hnew
  have HUA := Lib.hid hua
  have HC := Lib.hid hc
  have HM := Lib.hid h.mid
  obtain ⟨bn, hbn⟩ : ∃ bn, bn = V.bn := ⟨_, rfl⟩
  obtain ⟨bo, hbo⟩ : ∃ bo, bo = V.bo := ⟨_, rfl⟩
  obtain ⟨bw, hbw⟩ : ∃ bw, bw = V.bw := ⟨_, rfl⟩
  have HBN := Lib.hid hbn
  have HBO := Lib.hid hbo
  have HBW := Lib.hid hbw
  obtain ⟨k0, hk0⟩ : ∃ k : Int, k = at' is 0 := ⟨_, rfl⟩
  obtain ⟨k1, hk1⟩ : ∃ k : Int, k = at' is 1 := ⟨_, rfl⟩
  obtain ⟨k2, hk2⟩ : ∃ k : Int, k = at' is 2 := ⟨_, rfl⟩
  obtain ⟨k3, hk3⟩ : ∃ k : Int, k = at' is 3 := ⟨_, rfl⟩
  obtain ⟨k4, hk4⟩ : ∃ k : Int, k = at' is 4 := ⟨_, rfl⟩
  obtain ⟨k5, hk5⟩ : ∃ k : Int, k = at' is 5 := ⟨_, rfl⟩
  obtain ⟨k6, hk6⟩ : ∃ k : Int, k = at' is 6 := ⟨_, rfl⟩
  obtain ⟨k7, hk7⟩ : ∃ k : Int, k = at' is 7 := ⟨_, rfl⟩
  have HKC : Hid (keyC (p, is) = #[.int .i64 p, .int .i64 k0, .int .i64 k1, .int .i64 k2, .int .i64 k3, .int .i64 k4, .int .i64 k5, .int .i64 k6, .int .i64 k7]) := Lib.hid (by rw [hk0, hk1, hk2, hk3, hk4, hk5, hk6, hk7]; rfl)
  clear h hc hf hk hnew hua hbn hbo hbw hk0 hk1 hk2 hk3 hk4 hk5 hk6 hk7
  -- region 0: the number
  obtain ⟨W0, hW0⟩ : ∃ W0, W0 = w.drew := ⟨_, rfl⟩
  have hb0 : Below w.heap.size w W0 := by rw [hW0]; exact drew_below _ _
  have HMa := Lib.hid (HM.out.up hb0)
  have HCa := Lib.hid (HC.out.tr (Tr.up (ex := fun _ => False) hb0) (fun h => h))
  obtain ⟨htn, fn, hmn, hfn⟩ := HMa.out.num
  obtain ⟨w1, hrun0, hM1, hg1⟩ := hmn.drop (f' := upF fn (keyV (p, is)) none) (Go.Maps.Keyed.of_law Try.law58) Try.underlying46 (okKey_row HK.out) 0 (upF_same _ _ _) (fun x _ hx => upF_other hx)
  have hrun0' : ∀ ty, (Builtin.delete_ #[46, 58] ty #[.map (some bn), .agg #[.int .i64 p, .int .i64 k0, .int .i64 k1, .int .i64 k2, .int .i64 k3, .int .i64 k4, .int .i64 k5, .int .i64 k6, .int .i64 k7]]).run Try.prog W0 = .ok (.tuple #[]) w1 := by
    intro ty
    have h9 := hrun0
    rw [← HBN.out, keyV, HKC.out] at h9
    exact h9
  obtain ⟨hM2, hT2⟩ := HMa.out.numTo (Cn' := idx l) hM1 hg1 (num_pop HS.out.okA HF.out HNEW.out hfn)
  have HM1 := Lib.hid hM2.less
  have HC1 := Lib.hid (HCa.out.tr hT2 (by simp))
  have HT1 : Hid (Tr Own G w G w1) := Lib.hid ((Tr.up hb0).trans (hT2.wide (fun r hr => by subst hr; exact ⟨by simp, by simp, by simp⟩)))
  have x0 : w.cell? ⟨c0, 0, none⟩ = some (.pointer (some ⟨X, 0, none⟩)) := by have := HC.out.b0; simp only [World.cell?, this]; rfl
  have x3 : w.cell? ⟨X, 3, none⟩ = some (.map (some bn)) := by rw [HBN.out]; exact HM.out.blk.cells.2.2.2.1
  have h9 := HC.out.b1
  rw [HKC.out] at h9
  obtain ⟨y0, y1, y2, y3, y4, y5, y6, y7, y8⟩ := nine h9
  clear h9 hb0 htn hmn hfn hrun0 hM1 hg1 hM2 hT2
  go_enter Try.func30, Try.ntmps30
  go_upto_region 0 with fail
  go_still_tail 5, (by kernel_rfl)
  change wpList _ _ _ _ _ w.drew
  rw [← hW0]
  clear hW0
  refine wpList_delete rfl _ _ 46 58 rfl _ _ rfl rfl hrun0' ?_
  clear hrun0' x0 x3 y0 y1 y2 y3 y4 y5 y6 y7 y8 HMa HCa HM HC
  go_upto_region 1 with fail
  -- region 1: the predicate's list
  obtain ⟨W1, hW1⟩ : ∃ W1, W1 = w1.drew := ⟨_, rfl⟩
  have hb1 : Below w1.heap.size w1 W1 := by rw [hW1]; exact drew_below _ _
  have HM := Lib.hid (HM1.out.up hb1)
  have HC := Lib.hid (HC1.out.tr (Tr.up (ex := fun _ => False) hb1) (fun h => h))
  have HT := Lib.hid (HT1.out.trans (Tr.up hb1))
  obtain ⟨fo, hfo⟩ := HM.out.of
  rw [← HBO.out] at hfo
  have hpick : pick (ofQ p) (l ++ [(p, is)]) = pick (ofQ p) l ++ [(l.length : Int)] := pick_snoc_in (by simp [ofQ])
  have hvo : OwnD W1 (fun k => G k = .ofv p) ((fo (.int .i64 p)).getD nilS) (pick (ofQ p) l ++ [(l.length : Int)]) := by
    have := hfo.vals p HK.out.1
    simp only [hpick] at this
    exact this
  obtain ⟨lo, hlo⟩ : ∃ lo, lo = pick (ofQ p) l := ⟨_, rfl⟩
  rw [← hlo] at hvo
  have HLO := Lib.hid hlo
  obtain ⟨va, vc, hva, hvg, hvc, hvm⟩ := hvo.form
  obtain ⟨g, rfl⟩ := hvg (by simp)
  rw [List.length_append, List.length_singleton] at hva hvc
  rw [hva] at hvo
  have hcut := hvo.cut
  have hin : fo (.int .i64 p) ≠ none := slice_of_getD hva
  obtain ⟨w2, hrun1, hM2, hg2⟩ := hfo.map.restore (f' := upF fo (.int .i64 p) (some (.slice (some ⟨g, 0, none⟩) lo.length vc))) Try.law3 Try.underlying47 (by unfold maxLen; omega) (ok3 HK.out.1) (.slice (some ⟨g, 0, none⟩) lo.length vc) hin (upF_same _ _ _) (fun x _ hx => upF_other hx)
  obtain ⟨hF2, hT2⟩ := hfo.turn (i0 := p) (C' := fun q => pick (ofQ q) l) (v' := .slice (some ⟨g, 0, none⟩) lo.length vc) (by rw [← hlo]; exact hcut) hM2 hg2 (by rw [show ofF.key p = .int .i64 p from rfl, upF_same]; rfl) (fun x _ hx => upF_other hx) (fun q hq => (pick_snoc_out (by simp [ofQ]; exact fun h => hq h.symm)).symm)
  have hT2' : Tr (fun r => (∃ p, r = .ofv p) ∨ r = .of) G W1 G w2 := hT2.wide (fun r hr => Or.inr hr)
  have HM2 := Lib.hid (HM.out.ofTo (by rw [← HBO.out]; exact ⟨_, hF2⟩) hT2' (HM.out.out.up hg2.size))
  have HC2 := Lib.hid (HC.out.tr hT2' (by simp))
  have HT2 := Lib.hid (HT.out.trans (hT2'.wide (fun r hr => by rcases hr with ⟨_, rfl⟩ | rfl <;> exact ⟨by simp, by simp, by simp⟩)))
  have HMO := Lib.hid (show MapAt 3 W1 bo V.N fo from hfo.map)
  have hS0 : BlkS W1 [c0, c2, X, bo] W1 := BlkS.refl _ _
  have HCS : Hid (∀ x, BlkS W1 [c0, c2, X, bo] x → x.cell? ⟨c0, 0, none⟩ = some (.pointer (some ⟨X, 0, none⟩)) ∧ x.cell? ⟨c2, 0, none⟩ = some (.int .i64 p) ∧ x.cell? ⟨X, 4, none⟩ = some (.map (some bo)) ∧
      (Instr.lookup 47 (.map (some bo)) (.int .i64 p) false).run Try.prog x = .ok (.slice (some ⟨g, 0, none⟩) (lo.length + 1) vc) x) := Lib.hid (by
    intro x hx
    refine ⟨hx.cell (by simp) ?_, hx.cell (by simp) (row2 HC.out.b2).1, hx.cell (by simp) ?_, ?_⟩
    · have := HC.out.b0; simp only [World.cell?, this]; rfl
    · rw [HBO.out]; exact HM.out.blk.cells.2.2.2.2.1
    · have h1 := (HMO.out.same (hx bo (by simp))).look Try.law3 Try.underlying47 (Try.zero22 x) (ok3 HK.out.1) false
      rw [h1, ← hva]; rfl)
  clear hb1 hfo hpick hvo hlo hva hcut hin hM2 hg2 hF2 hT2 hT2' hvg
  refine wp_region_TL (BlkS W1 [c0, c2, X, bo]) 14 (by kernel_rfl) ?_
  rw [← hW1]
  clear hW1
  refine wpTL_take _ ?_ rfl (by kernel_rfl) (fun _ _ _ h => h) (by assumption) (Or.inl ⟨by rfl, fun x hx => ?_⟩) ?_
  rotate_left
  · obtain ⟨k0_, k1_, k2_, k3_⟩ := HCS.out x hx
    clear hx
    go_simp
    try with_reducible rfl
  simp only [Act.put, List.setIfInBounds_toArray, List.set_cons_zero, List.set_cons_succ]
  refine wpTL_take _ ?_ rfl (by kernel_rfl) (fun _ _ _ h => h) (by assumption) (Or.inl ⟨by rfl, fun x hx => ?_⟩) ?_
  rotate_left
  · obtain ⟨k0_, k1_, k2_, k3_⟩ := HCS.out x hx
    clear hx
    go_simp
    try with_reducible rfl
  simp only [Act.put, List.setIfInBounds_toArray, List.set_cons_zero, List.set_cons_succ]
  refine wpTL_take _ ?_ rfl (by kernel_rfl) (fun _ _ _ h => h) (by assumption) (Or.inl ⟨by rfl, fun x hx => ?_⟩) ?_
  rotate_left
  · obtain ⟨k0_, k1_, k2_, k3_⟩ := HCS.out x hx
    clear hx
    go_simp
    try with_reducible rfl
  simp only [Act.put, List.setIfInBounds_toArray, List.set_cons_zero, List.set_cons_succ]
  refine wpTL_take _ ?_ rfl (by kernel_rfl) (fun _ _ _ h => h) (by assumption) (Or.inl ⟨by rfl, fun x hx => ?_⟩) ?_
  rotate_left
  · obtain ⟨k0_, k1_, k2_, k3_⟩ := HCS.out x hx
    clear hx
    go_simp
    try with_reducible rfl
  simp only [Act.put, List.setIfInBounds_toArray, List.set_cons_zero, List.set_cons_succ]
  refine wpTL_take _ ?_ rfl (by kernel_rfl) (fun _ _ _ h => h) (by assumption) (Or.inl ⟨by rfl, fun x hx => ?_⟩) ?_
  rotate_left
  · obtain ⟨k0_, k1_, k2_, k3_⟩ := HCS.out x hx
    clear hx
    go_simp
    try with_reducible rfl
  simp only [Act.put, List.setIfInBounds_toArray, List.set_cons_zero, List.set_cons_succ]
  refine wpTL_take _ ?_ rfl (by kernel_rfl) (fun _ _ _ h => h) (by assumption) (Or.inl ⟨by rfl, fun x hx => ?_⟩) ?_
  rotate_left
  · obtain ⟨k0_, k1_, k2_, k3_⟩ := HCS.out x hx
    clear hx
    go_simp
    try with_reducible rfl
  simp only [Act.put, List.setIfInBounds_toArray, List.set_cons_zero, List.set_cons_succ]
  refine wpTL_take _ ?_ rfl (by kernel_rfl) (fun _ _ _ h => h) (by assumption) (Or.inl ⟨by rfl, fun x hx => ?_⟩) ?_
  rotate_left
  · obtain ⟨k0_, k1_, k2_, k3_⟩ := HCS.out x hx
    clear hx
    go_simp
    try with_reducible rfl
  simp only [Act.put, List.setIfInBounds_toArray, List.set_cons_zero, List.set_cons_succ]
  refine wpTL_take _ ?_ rfl (by kernel_rfl) (fun _ _ _ h => h) (by assumption) (Or.inl ⟨by rfl, fun x hx => ?_⟩) ?_
  rotate_left
  · obtain ⟨k0_, k1_, k2_, k3_⟩ := HCS.out x hx
    clear hx
    go_simp
    try with_reducible rfl
  simp only [Act.put, List.setIfInBounds_toArray, List.set_cons_zero, List.set_cons_succ]
  refine wpTL_take _ ?_ rfl (by kernel_rfl) (fun _ _ _ h => h) (by assumption) (Or.inl ⟨by rfl, fun x hx => ?_⟩) ?_
  rotate_left
  · obtain ⟨k0_, k1_, k2_, k3_⟩ := HCS.out x hx
    clear hx
    go_simp
    try with_reducible rfl
  simp only [Act.put, List.setIfInBounds_toArray, List.set_cons_zero, List.set_cons_succ]
  refine wpTL_take _ ?_ rfl (by kernel_rfl) (fun _ _ _ h => h) (by assumption) (Or.inl ⟨by rfl, fun x hx => ?_⟩) ?_
  rotate_left
  · obtain ⟨k0_, k1_, k2_, k3_⟩ := HCS.out x hx
    clear hx
    go_simp
    try with_reducible rfl
  simp only [Act.put, List.setIfInBounds_toArray, List.set_cons_zero, List.set_cons_succ]
  refine wpTL_take _ ?_ rfl (by kernel_rfl) (fun _ _ _ h => h) (by assumption) (Or.inl ⟨by rfl, fun x hx => ?_⟩) ?_
  rotate_left
  · obtain ⟨k0_, k1_, k2_, k3_⟩ := HCS.out x hx
    clear hx
    go_simp
    try with_reducible rfl
  simp only [Act.put, List.setIfInBounds_toArray, List.set_cons_zero, List.set_cons_succ]
  refine wpTL_take _ ?_ rfl (by kernel_rfl) (fun _ _ _ h => h) (by assumption) (Or.inl ⟨by rfl, fun x hx => ?_⟩) ?_
  rotate_left
  · obtain ⟨k0_, k1_, k2_, k3_⟩ := HCS.out x hx
    clear hx
    go_simp
    try with_reducible rfl
  simp only [Act.put, List.setIfInBounds_toArray, List.set_cons_zero, List.set_cons_succ]
  refine wpTL_take _ ?_ rfl (by kernel_rfl) (fun _ _ _ h => h) (by assumption) (Or.inl ⟨by rfl, fun x hx => ?_⟩) ?_
  rotate_left
  · obtain ⟨k0_, k1_, k2_, k3_⟩ := HCS.out x hx
    clear hx
    go_simp
    try with_reducible rfl
  simp only [Act.put, List.setIfInBounds_toArray, List.set_cons_zero, List.set_cons_succ]
  refine wpTL_one (by kernel_rfl) (fun K' hK' => ?_)
  go_simp
  go_at_call 31
  refine (dropLast_any (some ⟨g, 0, none⟩) lo.length vc _ hvc hvm ⟨_, rfl⟩).mono ?_
  rintro e w' ⟨rfl, rfl⟩
  refine hK' _ _ (fun _ => hS0) ?_
  clear hK' K'
  refine wpTL_one (by kernel_rfl) (fun K' hK' => ?_)
  refine step_mapUpdate (by rfl) _ _ _ 47 (by rfl) _ _ _ (by rfl) (by rfl) (by rfl) hrun1 ?_
  refine hK' _ _ (fun h => absurd rfl h) ?_
  clear hK' K'
  refine wpTL_nil (by kernel_rfl) ?_
  clear hS0 hrun1 HCS hvc hvm HM HC HT HM1 HC1 HT1
  go_upto_region 2 with fail
  -- the places
  have z1 := (row2 HC2.out.b2).2.1
  have HM2' := Lib.hid (HM2.out.whSame (Cw' := whD l (p, is) 0) (whD_start l (p, is)))
  go_wp2
  go_loopw [29] (fun k wr => ∃ i : Nat, k = .int .i64 (i : Int) ∧ i ≤ is.length ∧ Hid (Mid G X A l (l ++ [(p, is)]) fs V (idx l) (fun q => pick (ofQ q) l) (whD l (p, is) i) V.N V.N (8 * V.N) wr) ∧
    Hid (CloAt wr G X l.length (p, is) c0 c1 c2 c3 (.slice ua is.length uc)) ∧ Hid (Tr Own G w G wr)) (fun k _ => is.length - (intOf k).toNat)
  case atStart => exact ⟨0, rfl, Nat.zero_le _, HM2', HC2, HT2⟩
  case round =>
    obtain ⟨i, rfl, hin, HMr, HCr, HTr⟩ := hrel
    clear HM2 HM2' HC2 HT2 z1
    by_cases h1 : i < is.length
    · obtain ⟨g, rfl⟩ := HUA.out (fun e => by rw [e] at h1; simp at h1)
      obtain ⟨d, hd⟩ : ∃ d, d = at' is i := ⟨_, rfl⟩
      have e0' : wr.cell? ⟨g, i, none⟩ = some (.int .i64 d) := by
        have := HCr.out.ids.in.at h1
        rw [Nat.zero_add] at this
        rw [hd]; exact this
      have e1' := (row2 HCr.out.b2).1
      have hid : is[i]? = some d := by rw [hd]; exact at_some h1
      have hdi : I64 d := by rw [hd]; exact HK.out.2.1 i
      have HID := Lib.hid hid
      have HDI := Lib.hid hdi
      clear hd hid hdi
      go_upto_region 6 with fail
      obtain ⟨c8, hc8⟩ : ∃ c8, c8 = wr.heap.size := ⟨_, rfl⟩
      obtain ⟨wq, hwq⟩ : ∃ wq, wq = wr.alloc (.cells #[.int .i64 p, .int .i64 (i : Int), .int .i64 d] 72) := ⟨_, rfl⟩
      rw [← hwq, ← hc8]
      have s8 : wq.heap[c8]? = some (.cells #[.int .i64 p, .int .i64 (i : Int), .int .i64 d] 72) := by rw [hwq, hc8]; exact heap_alloc_new _ _
      have hbq : Below wr.heap.size wr wq := by rw [hwq]; exact up_alloc _ _
      have hO8' : G c8 = .out := HMr.out.out c8 (by omega)
      obtain ⟨W6, hW6⟩ : ∃ W6, W6 = wq.drew := ⟨_, rfl⟩
      have hb6 : Below wr.heap.size wr W6 := by rw [hW6]; exact hbq.trans (drew_below _ _)
      have s8' : W6.heap[c8]? = some (.cells #[.int .i64 p, .int .i64 (i : Int), .int .i64 d] 72) := by rw [hW6]; exact s8
      have HM := Lib.hid (HMr.out.up hb6)
      have HC := Lib.hid (HCr.out.tr (Tr.up (ex := fun _ => False) hb6) (fun h => h))
      have HT := Lib.hid (HTr.out.trans (Tr.up hb6))
      obtain ⟨fw, hfw⟩ := HM.out.whr
      rw [← HBW.out] at hfw
      have hgood : whF.good (p, i, d) := ⟨HK.out.1, by simp; omega, HDI.out⟩
      have hvo : OwnD W6 (fun k => G k = .whv p i d) ((fw (.agg #[.int .i64 p, .int .i64 (i : Int), .int .i64 d])).getD nilS) (whD l (p, is) (i + 1) (p, i, d) ++ [(l.length : Int)]) := by
        have := hfw.vals (p, i, d) hgood
        rw [whD_here l (p, is) HID.out] at this
        exact this
      obtain ⟨lw, hlw⟩ : ∃ lw, lw = whD l (p, is) (i + 1) (p, i, d) := ⟨_, rfl⟩
      rw [← hlw] at hvo
      obtain ⟨va, vc, hva, hvg, hvc, hvm⟩ := hvo.form
      obtain ⟨gv, rfl⟩ := hvg (by simp)
      rw [List.length_append, List.length_singleton] at hva hvc
      rw [hva] at hvo
      have hcut := hvo.cut
      have hin' : fw (.agg #[.int .i64 p, .int .i64 (i : Int), .int .i64 d]) ≠ none := slice_of_getD hva
      obtain ⟨w3, hrun6, hM3, hg3⟩ := hfw.map.restore (f' := upF fw (whF.key (p, i, d)) (some (.slice (some ⟨gv, 0, none⟩) lw.length vc))) (Go.Maps.Keyed.of_law Try.law72) Try.underlying48 (by unfold maxLen; omega) (whF.ok _ hgood) (.slice (some ⟨gv, 0, none⟩) lw.length vc) hin' (upF_same _ _ _) (fun x _ hx => upF_other hx)
      obtain ⟨hF3, hT3⟩ := hfw.turn (i0 := (p, i, d)) (C' := whD l (p, is) (i + 1)) (v' := .slice (some ⟨gv, 0, none⟩) lw.length vc) (by rw [← hlw]; exact hcut) hM3 hg3 (by rw [upF_same]; rfl) (fun x _ hx => upF_other hx) (fun x hx => whD_there l (p, is) HID.out hx)
      have hT3' : Tr (fun r => (∃ p i d, r = .whv p i d) ∨ r = .whr) G W6 G w3 := hT3.wide (fun r hr => Or.inr hr)
      have HM3 := Lib.hid (HM.out.whTo (by rw [← HBW.out]; exact ⟨_, hF3⟩) hT3' (HM.out.out.up hg3.size))
      have HC3 := Lib.hid (HC.out.tr hT3' (by simp))
      have HT3 := Lib.hid (HT.out.trans (hT3'.wide (fun r hr => by rcases hr with ⟨_, _, _, rfl⟩ | rfl <;> exact ⟨by simp, by simp, by simp⟩)))
      have HF3 := Lib.hid hF3
      have HLW := Lib.hid hlw
      have HGOOD := Lib.hid hgood
      have HMO := Lib.hid (show MapAt 72 W6 bw (8 * V.N) fw from hfw.map)
      have s83 : Hid (w3.heap[c8]? = some (.cells #[.int .i64 p, .int .i64 (i : Int), .int .i64 d] 72)) := Lib.hid ((hg3.block c8 (Array.getElem?_eq_some_iff.1 s8').1 (fun e => by
        have e9 : c8 = bw := Option.some.inj e
        have e1 : G c8 = .whr := by rw [e9]; exact hfw.tagged
        rw [hO8'] at e1; cases e1)).trans s8')
      have hS0 : BlkS W6 [c0, X, c8, bw] W6 := BlkS.refl _ _
      have HCS : Hid (∀ x, BlkS W6 [c0, X, c8, bw] x → x.cell? ⟨c0, 0, none⟩ = some (.pointer (some ⟨X, 0, none⟩)) ∧ x.cell? ⟨X, 5, none⟩ = some (.map (some bw)) ∧
          x.cell? ⟨c8, 0, none⟩ = some (.int .i64 p) ∧ x.cell? ⟨c8, 1, none⟩ = some (.int .i64 (i : Int)) ∧ x.cell? ⟨c8, 2, none⟩ = some (.int .i64 d) ∧
          (Instr.lookup 48 (.map (some bw)) (.agg #[.int .i64 p, .int .i64 (i : Int), .int .i64 d]) false).run Try.prog x = .ok (.slice (some ⟨gv, 0, none⟩) (lw.length + 1) vc) x) := Lib.hid (by
        intro x hx
        refine ⟨hx.cell (by simp) ?_, hx.cell (by simp) ?_, hx.cell (by simp) ?_, hx.cell (by simp) ?_, hx.cell (by simp) ?_, ?_⟩
        · have := HC.out.b0; simp only [World.cell?, this]; rfl
        · rw [HBW.out]; exact HM.out.blk.cells.2.2.2.2.2.1
        · simp only [World.cell?, s8']; rfl
        · simp only [World.cell?, s8']; rfl
        · simp only [World.cell?, s8']; rfl
        · have h1 := (HMO.out.same (hx bw (by simp))).look (Go.Maps.Keyed.of_law Try.law72) Try.underlying48 (Try.zero22 x) (whF.ok _ HGOOD.out) false
          exact h1.trans (by rw [show (fw (whF.key (p, i, d))).getD (.slice none 0 0) = _ from hva]; rfl))
      clear hwq s8 hbq hO8' hb6 s8' hfw hgood hvo hlw hva hcut hin' hM3 hg3 hF3 hT3 hT3' hvg hc8
      refine wp_region_TL (BlkS W6 [c0, X, c8, bw]) 12 (by kernel_rfl) ?_
      rw [← hW6]
      clear hW6
      refine wpTL_take _ ?_ rfl (by kernel_rfl) (fun _ _ _ h => h) (by assumption) (Or.inl ⟨by rfl, fun x hx => ?_⟩) ?_
      rotate_left
      · obtain ⟨k0_, k1_, k2_, k3_, k4_, k5_⟩ := HCS.out x hx
        clear hx
        go_simp
        try with_reducible rfl
      simp only [Act.put, List.setIfInBounds_toArray, List.set_cons_zero, List.set_cons_succ]
      refine wpTL_take _ ?_ rfl (by kernel_rfl) (fun _ _ _ h => h) (by assumption) (Or.inl ⟨by rfl, fun x hx => ?_⟩) ?_
      rotate_left
      · obtain ⟨k0_, k1_, k2_, k3_, k4_, k5_⟩ := HCS.out x hx
        clear hx
        go_simp
        try with_reducible rfl
      simp only [Act.put, List.setIfInBounds_toArray, List.set_cons_zero, List.set_cons_succ]
      refine wpTL_take _ ?_ rfl (by kernel_rfl) (fun _ _ _ h => h) (by assumption) (Or.inl ⟨by rfl, fun x hx => ?_⟩) ?_
      rotate_left
      · obtain ⟨k0_, k1_, k2_, k3_, k4_, k5_⟩ := HCS.out x hx
        clear hx
        go_simp
        try with_reducible rfl
      simp only [Act.put, List.setIfInBounds_toArray, List.set_cons_zero, List.set_cons_succ]
      refine wpTL_take _ ?_ rfl (by kernel_rfl) (fun _ _ _ h => h) (by assumption) (Or.inl ⟨by rfl, fun x hx => ?_⟩) ?_
      rotate_left
      · obtain ⟨k0_, k1_, k2_, k3_, k4_, k5_⟩ := HCS.out x hx
        clear hx
        go_simp
        try with_reducible rfl
      simp only [Act.put, List.setIfInBounds_toArray, List.set_cons_zero, List.set_cons_succ]
      refine wpTL_take _ ?_ rfl (by kernel_rfl) (fun _ _ _ h => h) (by assumption) (Or.inl ⟨by rfl, fun x hx => ?_⟩) ?_
      rotate_left
      · obtain ⟨k0_, k1_, k2_, k3_, k4_, k5_⟩ := HCS.out x hx
        clear hx
        go_simp
        try with_reducible rfl
      simp only [Act.put, List.setIfInBounds_toArray, List.set_cons_zero, List.set_cons_succ]
      refine wpTL_take _ ?_ rfl (by kernel_rfl) (fun _ _ _ h => h) (by assumption) (Or.inl ⟨by rfl, fun x hx => ?_⟩) ?_
      rotate_left
      · obtain ⟨k0_, k1_, k2_, k3_, k4_, k5_⟩ := HCS.out x hx
        clear hx
        go_simp
        try with_reducible rfl
      simp only [Act.put, List.setIfInBounds_toArray, List.set_cons_zero, List.set_cons_succ]
      refine wpTL_take _ ?_ rfl (by kernel_rfl) (fun _ _ _ h => h) (by assumption) (Or.inl ⟨by rfl, fun x hx => ?_⟩) ?_
      rotate_left
      · obtain ⟨k0_, k1_, k2_, k3_, k4_, k5_⟩ := HCS.out x hx
        clear hx
        go_simp
        try with_reducible rfl
      simp only [Act.put, List.setIfInBounds_toArray, List.set_cons_zero, List.set_cons_succ]
      refine wpTL_take _ ?_ rfl (by kernel_rfl) (fun _ _ _ h => h) (by assumption) (Or.inl ⟨by rfl, fun x hx => ?_⟩) ?_
      rotate_left
      · obtain ⟨k0_, k1_, k2_, k3_, k4_, k5_⟩ := HCS.out x hx
        clear hx
        go_simp
        try with_reducible rfl
      simp only [Act.put, List.setIfInBounds_toArray, List.set_cons_zero, List.set_cons_succ]
      refine wpTL_take _ ?_ rfl (by kernel_rfl) (fun _ _ _ h => h) (by assumption) (Or.inl ⟨by rfl, fun x hx => ?_⟩) ?_
      rotate_left
      · obtain ⟨k0_, k1_, k2_, k3_, k4_, k5_⟩ := HCS.out x hx
        clear hx
        go_simp
        try with_reducible rfl
      simp only [Act.put, List.setIfInBounds_toArray, List.set_cons_zero, List.set_cons_succ]
      refine wpTL_take _ ?_ rfl (by kernel_rfl) (fun _ _ _ h => h) (by assumption) (Or.inl ⟨by rfl, fun x hx => ?_⟩) ?_
      rotate_left
      · obtain ⟨k0_, k1_, k2_, k3_, k4_, k5_⟩ := HCS.out x hx
        clear hx
        go_simp
        try with_reducible rfl
      simp only [Act.put, List.setIfInBounds_toArray, List.set_cons_zero, List.set_cons_succ]
      refine wpTL_take _ ?_ rfl (by kernel_rfl) (fun _ _ _ h => h) (by assumption) (Or.inl ⟨by rfl, fun x hx => ?_⟩) ?_
      rotate_left
      · obtain ⟨k0_, k1_, k2_, k3_, k4_, k5_⟩ := HCS.out x hx
        clear hx
        go_simp
        try with_reducible rfl
      simp only [Act.put, List.setIfInBounds_toArray, List.set_cons_zero, List.set_cons_succ]
      refine wpTL_one (by kernel_rfl) (fun K' hK' => ?_)
      go_simp
      go_at_call 31
      refine (dropLast_any (some ⟨gv, 0, none⟩) lw.length vc _ hvc hvm ⟨_, rfl⟩).mono ?_
      rintro e w' ⟨rfl, rfl⟩
      refine hK' _ _ (fun _ => hS0) ?_
      clear hK' K'
      refine wpTL_one (by kernel_rfl) (fun K' hK' => ?_)
      refine step_mapUpdate (by rfl) _ _ _ 48 (by rfl) _ _ _ (by rfl) (by rfl) (by rfl) hrun6 ?_
      refine hK' _ _ (fun h => absurd rfl h) ?_
      clear hK' K'
      refine wpTL_nil (by kernel_rfl) ?_
      clear hS0 hrun6 HCS hvc hvm HM HC HT HMr HCr HTr
      go_upto_region 7 with fail
      -- region 7: is it empty?
      obtain ⟨W7, hW7⟩ : ∃ W7, W7 = w3.drew := ⟨_, rfl⟩
      have hb7 : Below w3.heap.size w3 W7 := by rw [hW7]; exact drew_below _ _
      have x0 : w3.cell? ⟨c0, 0, none⟩ = some (.pointer (some ⟨X, 0, none⟩)) := by have := HC3.out.b0; simp only [World.cell?, this]; rfl
      have x5 : w3.cell? ⟨X, 5, none⟩ = some (.map (some bw)) := by rw [HBW.out]; exact HM3.out.blk.cells.2.2.2.2.2.1
      have y0 : w3.cell? ⟨c8, 0, none⟩ = some (.int .i64 p) := by have := s83.out; simp only [World.cell?, this]; rfl
      have y1 : w3.cell? ⟨c8, 1, none⟩ = some (.int .i64 (i : Int)) := by have := s83.out; simp only [World.cell?, this]; rfl
      have y2 : w3.cell? ⟨c8, 2, none⟩ = some (.int .i64 d) := by have := s83.out; simp only [World.cell?, this]; rfl
      have hl3 : (Instr.lookup 48 (.map (some bw)) (.agg #[.int .i64 p, .int .i64 (i : Int), .int .i64 d]) false).run Try.prog w3.drew = .ok (.slice (some ⟨gv, 0, none⟩) lw.length vc) w3.drew := by
        have h1 := (HF3.out.map.same (w' := w3.drew) rfl).look (Go.Maps.Keyed.of_law Try.law72) Try.underlying48 (Try.zero22 w3.drew) (whF.ok _ HGOOD.out) false
        exact h1.trans (by rw [show (upF fw (whF.key (p, i, d)) (some (.slice (some ⟨gv, 0, none⟩) lw.length vc))) (whF.key (p, i, d)) = _ from upF_same _ _ _]; rfl)
      go_still_tail 7, (by kernel_rfl)
      change wpList _ _ _ _ _ w3.drew
      rw [← hW7]
      have HM7 := Lib.hid (HM3.out.up hb7)
      have HC7 := Lib.hid (HC3.out.tr (Tr.up (ex := fun _ => False) hb7) (fun h => h))
      have HT7 := Lib.hid (HT3.out.trans (Tr.up hb7))
      have HF7 := Lib.hid (HF3.out.tr (Tr.up (ex := fun _ => False) hb7) (fun h => h) (fun _ h => h))
      have s87 : Hid (W7.heap[c8]? = some (.cells #[.int .i64 p, .int .i64 (i : Int), .int .i64 d] 72)) := Lib.hid (by rw [hW7]; exact s83.out)
      clear x0 x5 y0 y1 y2 hl3 hW7 hb7 HM3 HC3 HT3 HF3
      by_cases hm : lw.length = 0
      · have e0 : ((lw.length : Int) == 0) = true := by simp [hm]
        have HLN : Hid (lw = []) := Lib.hid (List.length_eq_zero_iff.1 hm)
        clear hm
        have x0 : W7.cell? ⟨c0, 0, none⟩ = some (.pointer (some ⟨X, 0, none⟩)) := by have := HC7.out.b0; simp only [World.cell?, this]; rfl
        have x5 : W7.cell? ⟨X, 5, none⟩ = some (.map (some bw)) := by rw [HBW.out]; exact HM7.out.blk.cells.2.2.2.2.2.1
        have y0 : W7.cell? ⟨c8, 0, none⟩ = some (.int .i64 p) := by have := s87.out; simp only [World.cell?, this]; rfl
        have y1 : W7.cell? ⟨c8, 1, none⟩ = some (.int .i64 (i : Int)) := by have := s87.out; simp only [World.cell?, this]; rfl
        have y2 : W7.cell? ⟨c8, 2, none⟩ = some (.int .i64 d) := by have := s87.out; simp only [World.cell?, this]; rfl
        obtain ⟨W8, hW8⟩ : ∃ W8, W8 = W7.drew := ⟨_, rfl⟩
        have hb8 : Below W7.heap.size W7 W8 := by rw [hW8]; exact drew_below _ _
        have hF8 := HF7.out.tr (Tr.up (ex := fun _ => False) hb8) (fun h => h) (fun _ h => h)
        obtain ⟨w4, hrun8, hM4, hg4⟩ := hF8.map.drop (f' := upF (upF fw (whF.key (p, i, d)) (some (.slice (some ⟨gv, 0, none⟩) lw.length vc))) (whF.key (p, i, d)) none) (Go.Maps.Keyed.of_law Try.law72) Try.underlying48 (whF.ok _ HGOOD.out) 0 (upF_same _ _ _) (fun x _ hx => upF_other hx)
        obtain ⟨hF4, hT4⟩ := hF8.turn (i0 := (p, i, d)) (C' := whD l (p, is) (i + 1)) (v' := nilS) (by rw [← HLW.out, HLN.out]; exact OwnD.nil _ _) hM4 hg4 (by rw [upF_same]; rfl) (fun x _ hx => upF_other hx) (fun x hx => rfl)
        have hT4' : Tr (fun r => (∃ p i d, r = .whv p i d) ∨ r = .whr) G W8 G w4 := hT4.wide (fun r hr => Or.inr hr)
        have HM4 := Lib.hid ((HM7.out.up hb8).whTo (by rw [← HBW.out]; exact ⟨_, hF4⟩) hT4' ((HM7.out.up hb8).out.up hg4.size))
        have HC4 := Lib.hid ((HC7.out.tr (Tr.up (ex := fun _ => False) hb8) (fun h => h)).tr hT4' (by simp))
        have HT4 := Lib.hid ((HT7.out.trans (Tr.up hb8)).trans (hT4'.wide (fun r hr => by rcases hr with ⟨_, _, _, rfl⟩ | rfl <;> exact ⟨by simp, by simp, by simp⟩)))
        have hrun8' : ∀ ty, (Builtin.delete_ #[48, 72] ty #[.map (some bw), .agg #[.int .i64 p, .int .i64 (i : Int), .int .i64 d]]).run Try.prog W8 = .ok (.tuple #[]) w4 := fun ty => hrun8
        clear hb8 hF8 hrun8 hM4 hg4 hF4 hT4 hT4'
        go_upto_region 8 with fail
        go_still_tail 5, (by kernel_rfl)
        change wpList _ _ _ _ _ W7.drew
        rw [← hW8]
        clear hW8
        refine wpList_delete rfl _ _ 48 72 rfl _ _ rfl rfl hrun8' ?_
        clear hrun8' x0 x5 y0 y1 y2 HM7 HC7 HT7 HF7
        go_wp2
        go_roundw
        case rel => exact ⟨i + 1, by go_num, by omega, HM4, HC4, HT4⟩
        case measure => simp only [intOf]; omega
      · have e0 : ((lw.length : Int) == 0) = false := by rw [beq_eq_false_iff_ne]; omega
        clear hm
        go_wp2
        go_roundw
        case rel => exact ⟨i + 1, by go_num, by omega, HM7, HC7, HT7⟩
        case measure => simp only [intOf]; omega
    · have e : i = is.length := by omega
      subst e
      have x0 : wr.cell? ⟨c0, 0, none⟩ = some (.pointer (some ⟨X, 0, none⟩)) := by have := HCr.out.b0; simp only [World.cell?, this]; rfl
      have x3 : wr.cell? ⟨c3, 0, none⟩ = some (.int .i64 (l.length : Int)) := by have := HCr.out.b3; simp only [World.cell?, this]; rfl
      obtain ⟨ra, rc, hrv, hrc, hrm, hra⟩ : ∃ a c, V.rv = .slice a (l.length + 1) c ∧ l.length + 1 ≤ c ∧ c ≤ 9223372036854775807 ∧ ∃ g, a = some ⟨g, 0, none⟩ := by
        obtain ⟨us, bs, hr⟩ := HMr.out.rows
        rcases hr.row.2 with ⟨_, h0⟩ | ⟨g, cap, cur, h1, _, _, h2, h3, _⟩
        · simp at h0
        · refine ⟨_, cap, by rw [h1]; simp, by simp at h2; exact h2, by unfold maxLen at h3; omega, g, rfl⟩
      obtain ⟨g, rfl⟩ := hra
      have x1 : wr.cell? ⟨X, 1, none⟩ = some (.slice (some ⟨g, 0, none⟩) (l.length + 1) rc) := by rw [← hrv]; exact HMr.out.blk.cells.2.1
      have f1 : wr.frozen? ⟨X, 1, none⟩ = false := HMr.out.blk.froz.1
      have HRV := Lib.hid hrv
      obtain ⟨W10, hW10⟩ : ∃ W10, W10 = wr.drew := ⟨_, rfl⟩
      have hb10 : Below wr.heap.size wr W10 := by rw [hW10]; exact drew_below _ _
      have hM10 := HMr.out.up hb10
      have hT10 := HTr.out.trans (Tr.up hb10)
      obtain ⟨hM11, hT11⟩ := hM10.rowOut hrv
      obtain ⟨w11, hw11⟩ : ∃ w11, w11 = W10.setCell ⟨X, 1, none⟩ (.slice (some ⟨g, 0, none⟩) l.length rc) := ⟨_, rfl⟩
      rw [← hw11] at hM11 hT11
      have HT11 := Lib.hid (hT10.trans (hT11.wide (fun r hr => by subst hr; exact ⟨by simp, by simp, by simp⟩)))
      have HST := Lib.hid (Mid.store hM11 (fun x => (whD_end l (p, is) x).symm) (Nat.le_refl _) (Nat.le_refl _) (Nat.le_refl _) (by simp only; omega) (fun r hr => HS.out.fits r (by simp [hr])) (List.nodup_append.1 HS.out.nodup).1 HS.out.okA)
      have HW11 := Lib.hid hw11
      have h5 : (l.length : Int) ≤ (rc : Int) := by omega
      clear hrv hb10 hM10 hT10 hM11 hT11 hw11
      go_upto_region 10 with fail
      go_still_tail 7, (by kernel_rfl)
      change wpList _ _ _ _ _ wr.drew
      rw [← hW10]
      have x1 : W10.cell? ⟨X, 1, none⟩ = some (.slice (some ⟨g, 0, none⟩) (l.length + 1) rc) := by rw [hW10]; exact x1
      have f1 : W10.frozen? ⟨X, 1, none⟩ = false := by rw [hW10]; exact f1
      clear hW10
      go_wp2
      rw [← HW11.out]
      refine bodyPost_ret (results_none rfl _ _ _) rfl ?_
      exact ⟨rfl, _, HST.out, rfl, rfl, HT11.out, rfl⟩
end Go.Proofs.Ytmkoejpdoeblkaa
