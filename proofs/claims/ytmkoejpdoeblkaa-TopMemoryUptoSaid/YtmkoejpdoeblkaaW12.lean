/-
  The walk of a store's Copy. Conditions: sizes within the form's own reach.
-/
import Derived.Test.YtmkoejpdoeblkaaW11
namespace Go.Proofs.Ytmkoejpdoeblkaa
open Go.RowKit Pl

def CopyIs (A : List Int) (l : List Rw) (w : World) (e : Ending) (w' : World) : Prop :=
  ∃ X G fs V, e = .returned (.pointer (some ⟨X, 0, none⟩)) ∧ StoreAt G X A l fs V w' ∧ l.length = fs.length ∧ V.N = l.length ∧ V.lv = .slice none 0 0 ∧ Below w.heap.size w w' ∧ ∀ k, G k ≠ .out → w.heap.size ≤ k
theorem okA_len {A : List Int} (h : okA A = true) : A.length ≤ 128 := by
  unfold okA at h
  rw [Bool.and_eq_true] at h
  simpa using h.1

set_option maxRecDepth 100000 in
set_option maxHeartbeats 3200000 in
theorem copy_any {G : Nat → Rl} {X : Nat} {A : List Int} {l : List Rw} {fs : List Value} {V : SV} (w : World) (h : StoreAt G X A l fs V w) (hN : V.N ≤ 4194304) : Calls Try.prog 12 #[.pointer (some ⟨X, 0, none⟩)] w (CopyIs A l w) := by
  have hln := h.len
  have x0 := h.blk.cells.1
  have HS := Lib.hid h
  clear h
  go_enter Try.func12, Try.ntmps12
  go_wp2_with fail
  refine (new_any A _ _ HS.out.ars.in.all (by have := okA_len HS.out.okA; omega)).mono ?_
  rintro e w1 ⟨hb, ⟨h0, _⟩ | ⟨hA, X', G', V', rfl, hs, hn, hv, hG⟩⟩
  · rw [HS.out.okA] at h0; cases h0
  have HS1 := Lib.hid (HS.out.up hb)
  obtain ⟨us, bs, hrows⟩ := HS1.out.rows
  obtain ⟨ra, rc, hrv, hra⟩ : ∃ a c, V.rv = .slice a l.length c ∧ (l ≠ [] → ∃ g, a = some ⟨g, 0, none⟩) := by
    rcases Joins.ownsRow_forms hrows.row with ⟨h1, h2⟩ | ⟨g, cap, h1⟩
    · exact ⟨none, 0, by rw [h1]; simp [h2], fun hne => absurd (List.length_eq_zero_iff.1 h2) hne⟩
    · exact ⟨_, cap, h1, fun _ => ⟨g, rfl⟩⟩
  have x1 : w1.cell? ⟨X, 1, none⟩ = some (.slice ra l.length rc) := by rw [← hrv]; exact HS1.out.blk.cells.2.1
  have HROW := Lib.hid hrows
  have HRV := Lib.hid hrv
  have HRA := Lib.hid hra
  have HNEW := Lib.hid hs
  have HB1 := Lib.hid hb
  have HP0 : Hid (V'.N = 0 ∧ V'.lv = .slice none 0 0) := Lib.hid ⟨hn, hv⟩
  have HG0 := Lib.hid hG
  clear hs hn hv hG hrows hrv hra hb hA x0
  go_wp2
  clear x1
  go_loopw [22] (fun k wr => ∃ (i : Nat) (Gi : Nat → Rl) (fi : List Value) (Vi : SV), k = .int .i64 (i : Int) ∧ i ≤ l.length ∧ Hid (StoreAt Gi X' A (l.take i) fi Vi wr) ∧ Hid ((l.take i).length = fi.length ∧ Vi.N = i ∧ Vi.lv = .slice none 0 0) ∧ Hid (Below w.heap.size w wr) ∧ Hid (∀ k, Gi k ≠ .out → w.heap.size ≤ k)) (fun k _ => l.length - (intOf k).toNat)
  case atStart => exact ⟨0, G', [], V', rfl, Nat.zero_le _, by rw [List.take_zero]; exact HNEW, Lib.hid ⟨rfl, HP0.out⟩, HB1, HG0⟩
  case round =>
    obtain ⟨i, Gi, fi, Vi, rfl, hil, HSi, HPi, HBi, HGi⟩ := hrel
    by_cases h1 : i < l.length
    · obtain ⟨g, rfl⟩ := HRA.out (fun e => by rw [e] at h1; simp at h1)
      obtain ⟨s, hsi⟩ : ∃ s, l[i]? = some s := ⟨l[i], List.getElem?_eq_getElem h1⟩
      obtain ⟨u, hu⟩ : ∃ u, us[i]? = some u := ⟨us[i]'(by rw [HROW.out.ul]; exact h1), List.getElem?_eq_getElem _⟩
      obtain ⟨b, hb⟩ : ∃ b, bs[i]? = some b := ⟨bs[i]'(by rw [HROW.out.bl]; exact h1), List.getElem?_eq_getElem _⟩
      have hSr := HS.out.up HBi.out
      have hrow : wr.ownsRow 0 63 3 (.slice (some ⟨g, 0, none⟩) l.length rc) l.length (flat3 l us bs) := by
        have h2 := HROW.out.row
        rw [HRV.out] at h2
        have hgw : g < w.heap.size := by
          have h3 := HS.out.rows
          obtain ⟨us', bs', h3⟩ := h3
          have := h3.row.lt g (by rw [HRV.out]; rfl)
          exact this.2
        refine ⟨h2.1, ?_⟩
        rcases h2.2 with h4 | ⟨g', cap, cur, e1, e2, e3, e4⟩
        · exact .inl h4
        · simp only [Value.slice.injEq, Option.some.injEq, Addr.mk.injEq] at e1
          obtain ⟨⟨rfl, _⟩, _, rfl⟩ := e1
          refine .inr ⟨g, rc, cur, rfl, e2, ?_, e4⟩
          rw [HBi.out.block g hgw, ← HB1.out.block g hgw]; exact e3
      have hid : OwnD w1 (fun k => G k = .imm) u s.2 := HROW.out.ids i s u hsi hu
      have hidr : IntsIn wr All u s.2 := by
        have h3 : OwnD w (fun k => G k = .imm) u s.2 ∨ True := .inr trivial
        obtain ⟨us', bs', h4⟩ := HS.out.rows
        obtain ⟨us2, bs2, h5⟩ := hSr.rows
        have h6 : (flat3 l us bs)[i * 3 + 1]? = some u := (flat3_get l us bs i s u b hsi hu hb).2.1
        have h7 := h5.row
        rw [HRV.out] at h7
        obtain ⟨u2, hu2⟩ : ∃ u, us2[i]? = some u := ⟨us2[i]'(by rw [h5.ul]; exact h1), List.getElem?_eq_getElem _⟩
        obtain ⟨b2, hb2⟩ : ∃ b, bs2[i]? = some b := ⟨bs2[i]'(by rw [h5.bl]; exact h1), List.getElem?_eq_getElem _⟩
        have h8 := (flat3_get l us2 bs2 i s u2 b2 hsi hu2 hb2).2.1
        have h9 := World.ownsRow.cellAt h7 (i * 3 + 1) (by omega)
        have h10 := World.ownsRow.cellAt hrow (i * 3 + 1) (by omega)
        rw [h9, h8, h6] at h10
        have e := Option.some.inj h10
        rw [← e]
        exact (h5.ids i s u2 hsi hu2).in.all
      obtain ⟨f0, f1, f2⟩ := flat3_get l us bs i s u b hsi hu hb
      have y0 : wr.cell? ⟨g, i * 3, none⟩ = some (.int .i64 s.1) := (World.ownsRow.cellAt hrow (i * 3) (by omega)).trans f0
      have y1 : wr.cell? ⟨g, i * 3 + 1, none⟩ = some u := (World.ownsRow.cellAt hrow (i * 3 + 1) (by omega)).trans f1
      have y2 : wr.cell? ⟨g, i * 3 + 2, none⟩ = some (.int .i64 b) := (World.ownsRow.cellAt hrow (i * 3 + 2) (by omega)).trans f2
      obtain ⟨hfit, hoks⟩ := HS.out.fits s (List.mem_of_getElem? hsi)
      have hsn : l.take (i + 1) = l.take i ++ [s] := by rw [List.take_add_one, hsi]; rfl
      have hni : s ∉ l.take i := by
        intro hm
        obtain ⟨j, hj, e⟩ := List.getElem_of_mem hm
        have hjl : j < i := by rw [List.length_take] at hj; omega
        have := List.pairwise_iff_getElem.1 HS.out.nodup j i (by omega) h1 hjl
        rw [List.getElem_take] at e
        rw [List.getElem?_eq_getElem h1] at hsi
        exact this (e.trans (Option.some.inj hsi).symm)
      obtain ⟨sp, sl⟩ := s
      simp only at y0 hidr
      obtain ⟨ua, uc, rfl, _⟩ := hidr.form
      obtain ⟨wq, hwq⟩ : ∃ wq, wq = wr.alloc (.cells #[.int .i64 sp, .slice ua sl.length uc, .int .i64 b] 63) := ⟨_, rfl⟩
      have hbq : Below wr.heap.size wr wq := by rw [hwq]; exact up_alloc _ _
      have HWQ := Lib.hid hwq
      have HSQ := Lib.hid (HSi.out.up hbq)
      have HUQ := Lib.hid (hidr.below hbq)
      have HBQ := Lib.hid (HBi.out.trans (hbq.mono HBi.out.size))
      have HSN := Lib.hid hsn
      have HNI := Lib.hid hni
      have HFT := Lib.hid hfit
      have HOK := Lib.hid hoks
      have HNi : Vi.N ≤ 4194304 := by rw [HPi.out.2.1]; omega
      clear hsi hu hb hSr hrow hid hidr f0 f1 f2 hfit hoks hsn hni hwq hbq
      go_wp2_with fail
      rw [← HWQ.out]
      refine (push_any _ HSQ.out HPi.out.1 HFT.out HOK.out HNI.out HNi ⟨_, rfl, HUQ.out⟩).mono ?_
      rintro e w6 ⟨rfl, G6, f6, V6, hs6, hl6, hn6, hv6, ht6⟩
      have HS6 := Lib.hid hs6
      have HP6 : Hid ((l.take i ++ [(sp, sl)]).length = f6.length ∧ V6.N = i + 1 ∧ V6.lv = .slice none 0 0) := Lib.hid ⟨hl6, by rw [hn6, HPi.out.2.1], hv6.trans HPi.out.2.2⟩
      have HB6 : Hid (Below w.heap.size w w6) := Lib.hid (HBQ.out.trans ⟨ht6.kp.os, ht6.kp.tape, ht6.kp.output, ht6.kp.size, fun k hk => ht6.kp.block k (Nat.lt_of_lt_of_le hk HBQ.out.size) (fun hx => by
        have := HGi.out k hx.1; omega)⟩)
      have HG6 : Hid (∀ k, G6 k ≠ .out → w.heap.size ≤ k) := Lib.hid (fun k hk => by
        refine Decidable.byContradiction fun hn => hk ?_
        rw [ht6.agree k (by have := HBQ.out.size; omega)]
        refine Decidable.byContradiction fun h9 => hn (HGi.out k h9))
      clear hs6 hl6 hn6 hv6 ht6
      go_wp2
      go_roundw
      case rel => exact ⟨i + 1, G6, f6, V6, by go_num, by omega, by rw [HSN.out]; exact HS6, by rw [HSN.out]; exact HP6, HB6, HG6⟩
      case measure => simp only [intOf]; omega
    · have e : i = l.length := by omega
      subst e
      rw [List.take_length] at HSi HPi
      go_wp2
      go_ret
      exact ⟨X', Gi, fi, Vi, rfl, HSi.out, HPi.out.1, HPi.out.2.1, HPi.out.2.2, HBi.out, HGi.out⟩
end Go.Proofs.Ytmkoejpdoeblkaa
