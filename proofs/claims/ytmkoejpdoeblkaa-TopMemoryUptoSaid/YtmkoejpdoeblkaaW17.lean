/-
  The walk of TopMemory. Conditions: sizes within the form's own reach.
-/
import Derived.Test.YtmkoejpdoeblkaaK9
import Derived.Deep.CutRange
import Derived.Deep.CutBlock
namespace Go.Proofs.Ytmkoejpdoeblkaa
open Go.RowKit Pl

set_option maxRecDepth 100000 in
set_option maxHeartbeats 6400000 in
theorem mem_any (A : List Int) (ps : List Pt) (v1 v2 : Value) (w : World) (h1 : IntsIn w All v1 A) (h2 : PutsIn w v2 ps) (hA : A.length ≤ 1048576) (hp : ps.length ≤ 1048576) (hok : ∀ p ∈ ps, okPt p) (hs : sumR ps ≤ 1048576) :
    Calls Try.prog 3 #[v1, v2] w (BoolIs w true) := by
  have hmf : ∀ (fn : Fn) (first cap : Array Value) (w : World), (Instr.makeFunc fn first cap).run Try.prog w = .ok (.func fn first cap) w := fun _ _ _ _ => rfl
  obtain ⟨i34, qi, q0, q1, q2⟩ := info_parts Try.info34
  obtain ⟨aa, ac, rfl, haa⟩ := h1.form
  obtain ⟨pa, pc, rfl, hpa⟩ := h2.form
  have HV1 := Lib.hid h1
  have HV2 := Lib.hid h2
  have HAA := Lib.hid haa
  have HPA := Lib.hid hpa
  have HOK := Lib.hid hok
  clear h1 h2 haa hpa hok
  go_enter Try.func3, Try.ntmps3
  go_wp2_with fail
  refine (ownInts_any A _ _ HV1.out (by omega)).mono ?_
  rintro e w1 ⟨v3, rfl, ho1, hb1⟩
  have HB1 := Lib.hid hb1
  have HO1 := Lib.hid (OwnInts.in (D := All) ho1 (fun _ _ => trivial))
  clear ho1 hb1
  go_wp2_with fail
  refine (new_any A _ _ HO1.out hA).mono ?_
  rintro e w2 ⟨hb2, hcase⟩
  have HB2 := Lib.hid (HB1.out.trans (hb2.mono HB1.out.size))
  have hzz := HB1.out.size
  have HBn := Lib.hid hb2
  obtain ⟨pv, cv, rfl, HCASE⟩ : ∃ pv cv : Value, e = .returned (.tuple #[pv, cv]) ∧ Hid ((okA A = false ∧ pv = .pointer none ∧ cv = .int .i64 2) ∨ (okA A = true ∧ ∃ X G V, pv = .pointer (some ⟨X, 0, none⟩) ∧ cv = .int .i64 0 ∧ StoreAt G X A [] [] V w2 ∧ V.N = 0 ∧ V.lv = .slice none 0 0 ∧ ∀ k, G k ≠ .out → w1.heap.size ≤ k)) := by
    rcases hcase with ⟨h0, rfl⟩ | ⟨h0, X, G, V, rfl, h⟩
    · exact ⟨_, _, rfl, Lib.hid (.inl ⟨h0, rfl, rfl⟩)⟩
    · exact ⟨_, _, rfl, Lib.hid (.inr ⟨h0, X, G, V, rfl, rfl, h⟩)⟩
  clear hcase hb2
  have hpform : ∃ x, pv = .pointer x := by
    rcases HCASE.out with ⟨_, h, _⟩ | ⟨_, X, _, _, h, _⟩
    · exact ⟨_, h⟩
    · exact ⟨_, h⟩
  obtain ⟨px, rfl⟩ := hpform
  have hcform : ∃ x, cv = .int .i64 x := by
    rcases HCASE.out with ⟨_, _, h⟩ | ⟨_, X, _, _, _, h, _⟩
    · exact ⟨_, h⟩
    · exact ⟨_, h⟩
  obtain ⟨cx, rfl⟩ := hcform
  obtain ⟨b0, hb0⟩ : ∃ b0, b0 = decide ((A.length : Int) ≤ 128) := ⟨_, rfl⟩
  have HB0 : Hid (b0 = okB A 0) := Lib.hid (by rw [hb0, okB_start]; congr 1; simp; omega)
  obtain ⟨w3, hw3⟩ : ∃ w3, w3 = w2.alloc (.cells #[.pointer px] 24) := ⟨_, rfl⟩
  obtain ⟨b5, hb5⟩ : ∃ b5, b5 = w2.heap.size := ⟨_, rfl⟩
  have hb3 : Below w2.heap.size w2 w3 := by rw [hw3]; exact up_alloc _ _
  have q5 : w3.heap[b5]? = some (.cells #[.pointer px] 24) := by rw [hw3, hb5]; exact heap_alloc_new _ _
  have HB3 := Lib.hid (HB2.out.trans (hb3.mono HB2.out.size))
  have HB23 := Lib.hid hb3
  have HQ5 := Lib.hid q5
  have H5 := Lib.hid hb5
  have x5 : w3.cell? ⟨b5, 0, none⟩ = some (.pointer px) := by simp only [World.cell?, q5]; rfl
  go_upto_region 2 with fail
  rw [← hw3, ← hb5]
  clear hw3 hb5 hb3 q5 hzz
  go_upto_region 3 with fail
  rw [← hb0, HB0.out]
  clear hb0 HB0
  go_wp2
  go_loop [34, 7] (fun k b => ∃ i : Nat, k = .int .i64 (i : Int) ∧ i ≤ A.length ∧ b = .bool (okB A i)) (fun k _ => A.length - (intOf k).toNat)
  case atStart => exact ⟨0, rfl, Nat.zero_le _, rfl⟩
  case round =>
    obtain ⟨i, rfl, hil, rfl⟩ := hrel
    by_cases h1 : i < A.length
    · obtain ⟨g, off, rfl⟩ := HAA.out (fun e => by rw [e] at h1; simp at h1)
      obtain ⟨x, hx⟩ : ∃ x, x = at' A i := ⟨_, rfl⟩
      have hxc : w3.cell? ⟨g, off + i, none⟩ = some (.int .i64 x) := by rw [hx]; exact (HV1.out.below HB3.out).at h1
      have hsi : A[i]? = some x := by rw [hx]; exact at_some h1
      have HN := Lib.hid (okB_next hsi)
      obtain ⟨b, hb⟩ : ∃ b, b = okB A i := ⟨_, rfl⟩
      rw [← hb] at HN ⊢
      clear hx hsi hb
      cases b with
      | false =>
        rw [Bool.false_and] at HN
        go_wp2
        go_round
        case rel => exact ⟨i + 1, by go_num, by omega, by rw [HN.out]⟩
        case measure => simp only [intOf]; omega
      | true =>
        by_cases h2 : 0 ≤ x
        · have d2 : decide (x ≥ 0) = true := decide_eq_true h2
          by_cases h3 : x ≤ 8
          · have d3 : decide (x ≤ 8) = true := decide_eq_true h3
            have HN' : Hid (okB A (i + 1) = true) := Lib.hid (by rw [HN.out]; simp [h2, h3])
            clear h2 h3 HN
            go_wp2
            go_round
            case rel => exact ⟨i + 1, by go_num, by omega, by rw [HN'.out]⟩
            case measure => simp only [intOf]; omega
          · have d3 : decide (x ≤ 8) = false := decide_eq_false h3
            have HN' : Hid (okB A (i + 1) = false) := Lib.hid (by rw [HN.out]; simp [h3])
            clear h2 h3 HN
            go_wp2
            go_round
            case rel => exact ⟨i + 1, by go_num, by omega, by rw [HN'.out]⟩
            case measure => simp only [intOf]; omega
        · have d2 : decide (x ≥ 0) = false := decide_eq_false h2
          have HN' : Hid (okB A (i + 1) = false) := Lib.hid (by rw [HN.out]; simp [h2])
          clear h2 HN
          go_wp2
          go_round
          case rel => exact ⟨i + 1, by go_num, by omega, by rw [HN'.out]⟩
          case measure => simp only [intOf]; omega
    · have e : i = A.length := by omega
      have HE : Hid (okB A i = okA A) := Lib.hid (by rw [e, okB_end])
      rw [HE.out]
      clear e HE
      rcases HCASE.out with ⟨h0, hpx, hcx⟩ | ⟨h0, X, G0, V0, hpx, hcx, hs0, hn0, hv0, hr0⟩
      · simp only [Value.pointer.injEq, Value.int.injEq, true_and] at hpx hcx
        subst hpx hcx
        rw [h0]
        clear h0
        go_wp2
        go_ret
        exact ⟨rfl, HB3.out⟩
      · simp only [Value.pointer.injEq, Value.int.injEq, true_and] at hpx hcx
        subst hpx hcx
        rw [h0]
        have HST : Hid (St w w.heap.size b5 A 0 w3 X G0 [] [] V0) := Lib.hid (by
          have h1 := HB1.out.size
          have h2 := HBn.out.size
          have h5 := H5.out
          refine ⟨hs0.up HB23.out, rfl, ?_, HQ5.out, hs0.out b5 (by omega), by omega, HB3.out, fun k hk => by have := hr0 k hk; omega, Nat.le_of_eq hn0, rfl⟩
          rw [hv0]
          exact LowsP.nil _ _)
        clear hs0 hn0 hv0 hr0 h0 HCASE HQ5 HB23
        go_wp2
        clear x5 HB3 H5 hil h1
        go_loopw [64, 10] (fun k lv wr => ∃ (i : Nat) (lv' : Value) (X : Nat) (G : Nat → Rl) (l : List Rw) (fs : List Value) (V : SV), k = .int .i64 (i : Int) ∧ lv' = lv ∧ i ≤ ps.length ∧ Hid (St w w.heap.size b5 A (sumR (ps.take i)) wr X G l fs V) ∧ Hid (ListP wr G w.heap.size lv' l)) (fun k _ _ => ps.length - (intOf k).toNat)
        case atStart => exact ⟨0, _, X, G0, [], [], V0, rfl, rfl, Nat.zero_le _, HST, Lib.hid (ListP.nil _ _ _)⟩
        case round =>
          clear HST
          obtain ⟨i, lv', X, G, l, fs, V, rfl, rfl, hil, HS, HL⟩ := hrel
          by_cases h1 : i < ps.length
          · obtain ⟨g, off, rfl⟩ := HPA.out (fun e => by rw [e] at h1; simp at h1)
            obtain ⟨p, hpi⟩ : ∃ p, ps[i]? = some p := ⟨ps[i], List.getElem?_eq_getElem h1⟩
            obtain ⟨us, d0, d1, d2, hus⟩ := HV2.out.at2 HS.out.low hpi
            have hok := HOK.out p (List.mem_of_getElem? hpi)
            have hN := sumR_take ps i p hpi
            have hNle := sumR_le ps (i + 1)
            obtain ⟨N, hN0⟩ : ∃ N, N = sumR (ps.take i) := ⟨_, rfl⟩
            obtain ⟨N', hN1⟩ : ∃ N', N' = sumR (ps.take (i + 1)) := ⟨_, rfl⟩
            rw [← hN0] at HS hN
            rw [← hN1] at hN hNle
            have HN1 := Lib.hid hN1
            obtain ⟨kd, rs, nm⟩ := p
            simp only at d0 d1 d2 hus hN
            have HNN := Lib.hid hN
            have hN3 : N' ≤ 1048576 := by omega
            have HN3 := Lib.hid hN3
            have hrl : rs.length ≤ 1048576 := by omega
            obtain ⟨ua, uc, rfl, hua⟩ := hus.form
            have HUA := Lib.hid hua
            have HOKR := Lib.hid hok.rows
            have HNUM := Lib.hid hok.num
            obtain ⟨c12, hc12⟩ : ∃ c12, c12 = wr.heap.size := ⟨_, rfl⟩
            obtain ⟨W1, hW1⟩ : ∃ W1, W1 = wr.alloc (.cells #[.int .i64 kd, .slice ua rs.length uc, .int .i64 nm] 31) := ⟨_, rfl⟩
            have hb1 : Below wr.heap.size wr W1 := by rw [hW1]; exact up_alloc _ _
            have q1 : W1.heap[c12]? = some (.cells #[.int .i64 kd, .slice ua rs.length uc, .int .i64 nm] 31) := by rw [hW1, hc12]; exact heap_alloc_new _ _
            have HSi := Lib.hid (HS.out.up hb1)
            have HLi := Lib.hid (HL.out.up hb1)
            have HR := Lib.hid (hus)
            have HLOW := Lib.hid HS.out.low
            have HQ1 := Lib.hid q1
            have HW1 := Lib.hid (hb1.size)
            have HC12 := Lib.hid hc12
            have HG0 := Lib.hid (HS.out.store.out wr.heap.size (Nat.le_refl _))
            clear hpi hus hok hN hNle hN0 hN1 hua hb1 q1 HS HL
            go_upto_region 16 with fail
            rw [← hW1, ← hc12]
            clear hW1 hc12 d0 d1 d2
            have x0 : W1.cell? ⟨c12, 0, none⟩ = some (.int .i64 kd) := by have := HQ1.out; simp only [World.cell?, this]; rfl
            go_upto_block 4 with fail
            go_cut [10, 13, 14, 16, 17, 18, 19, 20] from 70 to 170 (fun lv _ _ _ _ _ _ _ wx => ∃ (lv' : Value) (X : Nat) (G : Nat → Rl) (l : List Rw) (fs : List Value) (V : SV), lv' = lv ∧ Hid (St w w.heap.size b5 A N' wx X G l fs V) ∧ Hid (ListP wx G w.heap.size lv' l) ∧ Hid (wx.heap[c12]? = some (.cells #[.int .i64 kd, .slice ua rs.length uc, .int .i64 nm] 31)))
            case first =>
              obtain ⟨la, lc, rfl⟩ := HLi.out.form
              have hx5 := HSi.out.box
              have x5 : W1.cell? ⟨b5, 0, none⟩ = some (.pointer (some ⟨X, 0, none⟩)) := by simp only [World.cell?, hx5]; rfl
              have x1 : W1.cell? ⟨c12, 1, none⟩ = some (.slice ua rs.length uc) := by have := HQ1.out; simp only [World.cell?, this]; rfl
              have x2 : W1.cell? ⟨c12, 2, none⟩ = some (.int .i64 nm) := by have := HQ1.out; simp only [World.cell?, this]; rfl
              have HRG : Hid (∀ x, St w w.heap.size b5 A N x X G l fs V → RowsIn x (fun k => G k = .out) (.slice ua rs.length uc) rs) := Lib.hid (fun x hx => (HR.out.sub (fun k hk _ => by
                by_cases e : G k = .out
                · exact e
                · have := HSi.out.roles k e; omega)).kp (Kp.of hx.low))
              have HVN : Hid (V.N + rs.length ≤ N' ∧ N ≤ N') := Lib.hid (by have := HSi.out.num; have := HNN.out; omega)
              have HG12 : Hid (G c12 = .out) := Lib.hid (by
                have h1 := HW1.out
                have h2 := HSi.out.store.out
                have h3 := HC12.out
                have := HG0.out
                rw [h3]; exact this)
              clear hx5
              by_cases k0 : kd = 0
              · have e0 : (kd == 0) = true := by simpa using k0
                clear k0 x2 x5
                go_wp2_with fail
                refine (may_any A rs _ _ W1 (HV1.out.below HSi.out.low) hA (HR.out.below HSi.out.low) HOKR.out hrl).mono ?_
                rintro e wm ⟨rfl, hbm⟩
                obtain ⟨ok, hok⟩ : ∃ ok, ok = mayB A rs := ⟨_, rfl⟩
                rw [← hok]
                have HOK0 := Lib.hid hok
                have HSm := Lib.hid (HSi.out.up hbm)
                have HLm : Hid (ListP wm G w.heap.size (.slice la l.length lc) (addTo A l rs 0)) := Lib.hid (by rw [addTo_start]; exact HLi.out.up hbm)
                have HQm := Lib.hid ((hbm.block c12 (Array.getElem?_eq_some_iff.1 HQ1.out).1).trans HQ1.out)
                have x1 : wm.cell? ⟨c12, 1, none⟩ = some (.slice ua rs.length uc) := by have := HQm.out; simp only [World.cell?, this]; rfl
                have HFITL : Hid (∀ j, ∀ s ∈ addTo A l rs j, s.2.length ≤ 1048576) := Lib.hid (fun j s hs => by
                  rcases addTo_mem hs with h | h
                  · exact (HSi.out.store.fits s h).2.2.2
                  · exact (HOKR.out s h).2.2)
                have HLEN : Hid (∀ j, l.length ≤ (addTo A l rs j).length ∧ (addTo A l rs j).length ≤ 1048576) := Lib.hid (fun j => by
                  have h1 := addTo_len A l rs j
                  have h2 := HSi.out.store.len
                  have h3 := HVN.out.1
                  have h4 := HN3.out
                  omega)
                clear hok hbm
                go_wp2
                clear x1
                go_loopw [81, 10] (fun k lv wr => ∃ (j : Nat) (lvj : Value), k = .int .i64 (j : Int) ∧ lvj = lv ∧ j ≤ rs.length ∧ Hid (St w w.heap.size b5 A N wr X G l fs V) ∧ Hid (ListP wr G w.heap.size lvj (addTo A l rs j)) ∧ Hid (wr.heap[c12]? = some (.cells #[.int .i64 kd, .slice ua rs.length uc, .int .i64 nm] 31))) (fun k _ _ => rs.length - (intOf k).toNat)
                case atStart => exact ⟨0, _, rfl, rfl, Nat.zero_le _, HSm, HLm, HQm⟩
                case round =>
                  clear HSm HLm HQm
                  obtain ⟨j, lvj, rfl, rfl, hjl, HSj, HLj, HQj⟩ := hrel
                  by_cases h2 : j < rs.length
                  · obtain ⟨gu, offu, rfl⟩ := HUA.out (fun e => by rw [e] at h2; simp at h2)
                    obtain ⟨r, hri⟩ : ∃ r, rs[j]? = some r := ⟨rs[j], List.getElem?_eq_getElem h2⟩
                    obtain ⟨ur, d0, d1, hur⟩ := (HR.out.below HSj.out.low).at hri
                    have hokr := HOKR.out r (List.mem_of_getElem? hri)
                    have HNX := Lib.hid (addTo_next (A := A) (l := l) hri)
                    obtain ⟨rp, rl⟩ := r
                    simp only at d0 d1 hur
                    obtain ⟨ra, rc, rfl, _⟩ := hur.form
                    obtain ⟨c16, hc16⟩ : ∃ c16, c16 = wr.heap.size := ⟨_, rfl⟩
                    obtain ⟨wz, hwz⟩ : ∃ wz, wz = wr.alloc (.cells #[.int .i64 rp, .slice ra rl.length rc] 34) := ⟨_, rfl⟩
                    have hbz : Below wr.heap.size wr wz := by rw [hwz]; exact up_alloc _ _
                    have qz : wz.heap[c16]? = some (.cells #[.int .i64 rp, .slice ra rl.length rc] 34) := by rw [hwz, hc16]; exact heap_alloc_new _ _
                    have HSz := Lib.hid (HSj.out.up hbz)
                    have HLz := Lib.hid (HLj.out.up hbz)
                    have HQz := Lib.hid ((hbz.block c12 (Array.getElem?_eq_some_iff.1 HQj.out).1).trans HQj.out)
                    have HUR := Lib.hid (hur.below hbz)
                    have HOR := Lib.hid hokr
                    have HQR := Lib.hid qz
                    obtain ⟨z0, z1, _, _⟩ := row2 qz
                    obtain ⟨cur, hcur⟩ : ∃ cur, cur = addTo A l rs j := ⟨_, rfl⟩
                    have HFC := Lib.hid (HFITL.out j)
                    have hlc := (HLEN.out j).2
                    rw [← hcur] at HLz HNX HFC hlc
                    have HCUR := Lib.hid hcur
                    clear hri hur hokr hbz qz HSj HLj HQj hcur
                    go_upto_region 23 with fail
                    rw [← hwz, ← hc16]
                    clear hwz hc16 d0 d1
                    cases ok with
                    | false =>
                      have HLy : Hid (ListP wz G w.heap.size lvj (addTo A l rs (j + 1))) := Lib.hid (by rw [HNX.out, if_neg (by rw [← HOK0.out]; simp)]; exact HLz.out)
                      clear z0 z1
                      go_wp2
                      go_roundw
                      case rel => exact ⟨j + 1, _, by go_num, rfl, by omega, HSz, HLy, HQz⟩
                      case measure => simp only [intOf]; omega
                    | true =>
                      go_wp2_with fail
                      refine (rowAt_any cur (rp, rl) _ _ wz HLz.out.in ⟨_, rfl, HUR.out⟩ (by omega) HFC.out HOR.out.2.2).mono ?_
                      rintro e wy ⟨rfl, hby⟩
                      have HSy := Lib.hid (HSz.out.up hby)
                      have HLy := Lib.hid (HLz.out.up hby)
                      have HQy := Lib.hid ((hby.block c12 (Array.getElem?_eq_some_iff.1 HQz.out).1).trans HQz.out)
                      have HQRy := Lib.hid ((hby.block c16 (Array.getElem?_eq_some_iff.1 HQR.out).1).trans HQR.out)
                      have HURy := Lib.hid (HUR.out.below hby)
                      obtain ⟨nr, hnr⟩ : ∃ nr, nr = rowNo cur (rp, rl) := ⟨_, rfl⟩
                      rw [← hnr]
                      clear z0 z1 hby
                      by_cases hin : (rp, rl) ∈ cur
                      · have dn : decide (nr < 0) = false := decide_eq_false (by rw [hnr, rowNo_neg]; exact fun h => h hin)
                        have HLx : Hid (ListP wy G w.heap.size lvj (addTo A l rs (j + 1))) := Lib.hid (by rw [HNX.out, if_neg (fun h => h.2 hin)]; exact HLy.out)
                        clear hnr hin
                        go_wp2
                        go_roundw
                        case rel => exact ⟨j + 1, _, by go_num, rfl, by omega, HSy, HLx, HQy⟩
                        case measure => simp only [intOf]; omega
                      · have dn : decide (nr < 0) = true := decide_eq_true (by rw [hnr, rowNo_neg]; exact hin)
                        have HEQ : Hid (addTo A l rs (j + 1) = cur ++ [(rp, rl)]) := Lib.hid (by rw [HNX.out, if_pos ⟨HOK0.out.symm, hin⟩])
                        obtain ⟨y0, y1, _, _⟩ := row2 HQRy.out
                        clear hnr hin
                        go_wp2_with fail
                        refine (ownRow_any (rp, rl) _ wy ⟨_, rfl, HURy.out⟩ HOR.out.2.2).mono ?_
                        rintro e wx ⟨u3, rfl, ho3, hb3⟩
                        obtain ⟨a3, n3, c3, rfl⟩ := ho3.form
                        obtain ⟨v4, w4, hrun, hL4, hk4, hq4⟩ := list_step (r := (rp, rl)) qi q0 q1 q2 HLy.out (by omega) HSy.out.store.out (by have := HSy.out.low.size; omega) hb3 ho3 29
                        have HRUN := Lib.hid hrun
                        have HS4 : Hid (St w w.heap.size b5 A N w4 X G l fs V) := Lib.hid (HSy.out.out (hk4.sub (fun k _ h => .inl h)) ((hq4 b5 _ HSy.out.box (by intro cs; simp)).trans HSy.out.box.symm) (HSy.out.low.trans ((hk4.sub (D' := fun k => k < w.heap.size) (fun k _ h => .inr h)).low1 HSy.out.low.size)))
                        have HQ4 := Lib.hid (hq4 c12 _ HQy.out (by intro cs; simp))
                        have HL4 : Hid (ListP w4 G w.heap.size v4 (addTo A l rs (j + 1))) := Lib.hid (by rw [HEQ.out]; exact hL4)
                        clear ho3 hb3 hrun hL4 hk4 hq4 y0 y1
                        go_wp2_with (at_builtin; refine wpList_append_run rfl _ _ 29 rfl lvj (.slice (some ⟨wx.heap.size, 0, none⟩) 1 1) v4 rfl rfl HRUN.out ?_)
                        go_roundw
                        case rel => exact ⟨j + 1, _, by go_num, rfl, by omega, HS4, HL4, HQ4⟩
                        case measure => simp only [intOf]; omega
                  · have HE : Hid (addTo A l rs j = added A l rs) := Lib.hid (by rw [show j = rs.length by omega, addTo_end])
                    rw [HE.out] at HLj
                    obtain ⟨L, hL⟩ : ∃ L, L = added A l rs := ⟨_, rfl⟩
                    have hLl : l.length ≤ L.length ∧ L.length ≤ 1048576 := by rw [hL, ← HE.out]; exact HLEN.out j
                    rw [← hL] at HLj
                    obtain ⟨ja, jc, rfl⟩ := HLj.out.form
                    have HLL := Lib.hid hL
                    obtain ⟨W, hW⟩ : ∃ W, W = wr.drew := ⟨_, rfl⟩
                    have hbW : Below wr.heap.size wr W := by rw [hW]; exact drew_below _ _
                    have HSW := Lib.hid (HSj.out.up hbW)
                    have HLW := Lib.hid (HLj.out.up hbW)
                    have hq5 := HSW.out.box
                    have hq12 := (hbW.block c12 (Array.getElem?_eq_some_iff.1 HQj.out).1).trans HQj.out
                    have HQW := Lib.hid hq12
                    have hS0 : BlkS W [b5, c12] W := BlkS.refl _ _
                    have HBZ : Hid (∀ b ∈ [b5, c12], b < W.heap.size) := Lib.hid (by
                      have h1 := (Array.getElem?_eq_some_iff.1 hq5).1
                      have h2 := (Array.getElem?_eq_some_iff.1 hq12).1
                      intro b hb; simp at hb; omega)
                    have HCS : Hid (∀ x, BlkS W [b5, c12] x → x.cell? ⟨b5, 0, none⟩ = some (.pointer (some ⟨X, 0, none⟩)) ∧ x.cell? ⟨c12, 1, none⟩ = some (.slice ua rs.length uc)) := Lib.hid (by
                      intro x hx
                      exact ⟨hx.cell (by simp) (by simp only [World.cell?, hq5]; rfl), hx.cell (by simp) (by simp only [World.cell?, hq12]; rfl)⟩)
                    clear hq5 hq12 hbW hL HE HLj HSj HQj
                    go_upto_region 26 with fail
                    refine wp_region_TL (BlkS W [b5, c12]) 9 (by kernel_rfl) ?_
                    rw [← hW]
                    clear hW
                    refine wpTL_take _ ?_ rfl (by kernel_rfl) (fun _ _ _ h => h) (by assumption) (Or.inl ⟨by rfl, fun x hx => ?_⟩) ?_
                    rotate_left
                    · obtain ⟨k0_, k1_⟩ := HCS.out x hx
                      clear hx
                      go_simp
                      try with_reducible rfl
                    simp only [Act.put, List.setIfInBounds_toArray, List.set_cons_zero, List.set_cons_succ]
                    refine wpTL_one (by kernel_rfl) (fun K' hK' => ?_)
                    go_simp
                    refine hK' _ _ (fun _ => hS0) ?_
                    clear hK' K'
                    obtain ⟨k0_, k1_⟩ := HCS.out W hS0
                    refine wpTL_one (by kernel_rfl) (fun K' hK' => ?_)
                    go_simp
                    refine hK' _ _ (fun _ => hS0) ?_
                    clear hK' K'
                    refine wpTL_one (by kernel_rfl) (fun K' hK' => ?_)
                    go_simp
                    go_at_call 10
                    refine (ownRows_any rs _ _ (HR.out.below HSW.out.low) HOKR.out hrl).mono ?_
                    rintro e w3x ⟨v3, rfl, ho3, hb3⟩
                    have hS3 : BlkS W [b5, c12] w3x := hS0.below HBZ.out hb3
                    have HO3 := Lib.hid ho3
                    have HB3 := Lib.hid hb3
                    clear ho3 hb3 hS0
                    refine hK' _ _ (fun _ => hS3) ?_
                    clear hK' K'
                    have HX3 : Hid (RowsIn w3x (fun k => G k = .out) v3 rs) := Lib.hid (HO3.out.in.sub (fun k _ hk => HSW.out.store.out k hk))
                    refine wpTL_one (by kernel_rfl) (fun K' hK' => ?_)
                    go_simp
                    go_at_call 9
                    refine (add_any w3x (HSW.out.store.up HB3.out) HSW.out.len HX3.out HOKR.out hrl (by have := HVN.out.1; have := HN3.out; omega)).mono ?_
                    rintro e w4 ⟨he, G4, f4, V4, hs4, hl4, hn4, hv4, ht4⟩
                    obtain ⟨cc, hcc⟩ : ∃ cc : Int, cc = (if mayB A rs = true then 0 else 2) := ⟨_, rfl⟩
                    rw [← hcc, ← HLL.out] at he
                    rw [← HLL.out] at hs4 hl4
                    obtain ⟨dd, hdd⟩ : ∃ dd : Int, dd = (L.length : Int) - (l.length : Int) := ⟨_, rfl⟩
                    rw [← hdd] at he
                    subst he
                    have HDD := Lib.hid hdd
                    have HCC := Lib.hid hcc
                    have ht := (Tr.up (ex := Own) (G := G) HB3.out).trans ht4
                    have nx : ¬ Own .out := fun h => h.1 rfl
                    have HS4 := Lib.hid (HSW.out.turn ht nx hs4 hl4 (by rw [hv4]; exact HSW.out.lows.tr ht (fun h => h.2.2 rfl)) (N' := N') (by have := HVN.out.1; omega))
                    have HL4 := Lib.hid (HLW.out.tr ht nx)
                    have hq5 := ht.cells_out HSW.out.box HSW.out.boxO nx
                    have hq12 := ht.cells_out HQW.out HG12.out nx
                    have HQ4 := Lib.hid hq12.1
                    have hS4 : BlkS W [b5, c12] w4 := fun b hb => by
                      simp only [List.mem_cons, List.not_mem_nil, or_false] at hb
                      rcases hb with rfl | rfl
                      · exact hq5.1.trans HSW.out.box.symm
                      · exact hq12.1.trans HQW.out.symm
                    clear hs4 hl4 hn4 hv4 ht4 hcc hdd ht nx hq5 hq12 hS3 k0_ k1_
                    refine hK' _ _ (fun _ => hS4) ?_
                    clear hK' K'
                    refine wpTL_one (by kernel_rfl) (fun K' hK' => ?_)
                    go_simp
                    refine hK' _ _ (fun _ => hS4) ?_
                    clear hK' K'
                    refine wpTL_take _ ?_ rfl (by kernel_rfl) (fun _ _ _ h => h) (by assumption) (Or.inl ⟨by rfl, fun x hx => ?_⟩) ?_
                    rotate_left
                    · obtain ⟨k0_, k1_⟩ := HCS.out x hx
                      clear hx
                      go_simp
                      try with_reducible rfl
                    simp only [Act.put, List.setIfInBounds_toArray, List.set_cons_zero, List.set_cons_succ]
                    refine wpTL_take _ ?_ rfl (by kernel_rfl) (fun _ _ _ h => h) (by assumption) (Or.inl ⟨by rfl, fun x hx => ?_⟩) ?_
                    rotate_left
                    · obtain ⟨k0_, k1_⟩ := HCS.out x hx
                      clear hx
                      go_simp
                      try with_reducible rfl
                    simp only [Act.put, List.setIfInBounds_toArray, List.set_cons_zero, List.set_cons_succ]
                    refine wpTL_one (by kernel_rfl) (fun K' hK' => ?_)
                    go_simp
                    refine hK' _ _ (fun _ => hS4) ?_
                    clear hK' K'
                    refine wpTL_one (by kernel_rfl) (fun K' hK' => ?_)
                    go_simp
                    refine hK' _ _ (fun h => absurd rfl h) ?_
                    clear hK' K'
                    refine wpTL_nil (by kernel_rfl) ?_
                    clear hS4 HCS HBZ
                    obtain ⟨hL1, hL2⟩ := hLl
                    have hdn : (dd != (L.length : Int) - (l.length : Int)) = false := by rw [HDD.out]; simp
                    have hcc : (ok = true ∧ cc = 0) ∨ (ok = false ∧ cc = 2) := by
                      rw [HCC.out, HOK0.out]
                      cases mayB A rs <;> simp
                    rcases hcc with ⟨hk1, hk2⟩ | ⟨hk1, hk2⟩
                    · subst hk1 hk2
                      go_wp2
                      go_meet
                      case rel => exact ⟨_, X, G4, L, f4, V4, rfl, HS4, HL4, HQ4⟩
                    · subst hk1 hk2
                      go_wp2
                      go_meet
                      case rel => exact ⟨_, X, G4, L, f4, V4, rfl, HS4, HL4, HQ4⟩
              · have e0 : (kd == 0) = false := by simpa using k0
                by_cases k1 : kd = 1
                · have e1 : (kd == 1) = true := by simpa using k1
                  obtain ⟨lwa, lwc, hlv, _, _⟩ := HSi.out.lows
                  have HLV := Lib.hid hlv
                  clear k0 k1 x1 hlv
                  go_wp2_with fail
                  refine (undo_any (n := nm) W1 HSi.out.store HSi.out.len HLV.out (by have := HVN.out.1; have := HN3.out; omega) HNUM.out).mono ?_
                  rintro e wt ⟨he, f4, V4, hs4, hl4, hn4, hv4, t4⟩
                  have HS4 := Lib.hid (HSi.out.turn t4 (fun h => h.1 rfl) hs4 hl4 (by rw [hv4]; exact HSi.out.lows.tr t4 (fun h => h.2.2 rfl)) (N' := N') (by have := HVN.out.1; omega))
                  have HL4 := Lib.hid (HLi.out.tr t4 (fun h => h.1 rfl))
                  have hq4 := (t4.cells_out HQ1.out HG12.out (fun h => h.1 rfl)).1
                  have HQ4 := Lib.hid hq4
                  have x2 : wt.cell? ⟨c12, 2, none⟩ = some (.int .i64 nm) := by simp only [World.cell?, hq4]; rfl
                  clear hs4 hl4 hn4 hv4 t4 hq4 x5
                  by_cases n0 : nm < 0
                  · rw [if_neg (by omega)] at he
                    subst he
                    have d1 : decide (nm < 0) = true := decide_eq_true n0
                    have HUN : Hid (undone l nm = l) := Lib.hid (by unfold undone; rw [if_neg (by omega)])
                    rw [HUN.out] at HS4
                    clear n0 HUN
                    go_wp2
                    go_meet
                    case rel => exact ⟨_, X, G, l, f4, V4, rfl, HS4, HL4, HQ4⟩
                  · obtain ⟨m, rfl⟩ : ∃ m : Nat, nm = (m : Int) := ⟨nm.toNat, by omega⟩
                    have d1 : decide ((m : Int) < 0) = false := decide_eq_false n0
                    by_cases n1 : m ≤ l.length
                    · rw [if_pos (by omega)] at he
                      subst he
                      have d2 : decide ((m : Int) > (l.length : Int)) = false := decide_eq_false (by omega)
                      have HUN : Hid (undone l (m : Int) = l.take m) := Lib.hid (by unfold undone; rw [if_pos (by omega)]; rfl)
                      rw [HUN.out] at HS4
                      obtain ⟨hc1, hc2, hc3, _⟩ := HL4.out.cut n1
                      have HL5 := Lib.hid hc1
                      have HC2 := Lib.hid hc2
                      have hml : m ≤ lc := Nat.le_trans n1 hc3
                      clear n0 HUN hc1 hc2 hc3
                      go_wp2
                      go_meet
                      case rel => exact ⟨_, X, G, l.take m, f4, V4, rfl, HS4, HL5, HQ4⟩
                    · rw [if_neg (by omega)] at he
                      subst he
                      have d2 : decide ((m : Int) > (l.length : Int)) = true := decide_eq_true (by omega)
                      have HUN : Hid (undone l (m : Int) = l) := Lib.hid (by unfold undone; rw [if_neg (by omega)])
                      rw [HUN.out] at HS4
                      have n2 : l.length < m := by omega
                      clear n0 n1 HUN
                      go_wp2
                      go_meet
                      case rel => exact ⟨_, X, G, l, f4, V4, rfl, HS4, HL4, HQ4⟩
                · have e1 : (kd == 1) = false := by simpa using k1
                  by_cases k2 : kd = 2
                  · have e2 : (kd == 2) = true := by simpa using k2
                    clear k0 k1 k2 x2 x1
                    obtain ⟨lwa, lwc, hlv, _, _⟩ := HSi.out.lows
                    have HLV := Lib.hid hlv
                    clear hlv
                    go_upto_region 39 with fail
                    go_wp2_with fail
                    refine (copy_any W1 HSi.out.store (by have := HVN.out.1; have := HN3.out; omega)).mono ?_
                    rintro e w4 ⟨X2, G2, f2, V2, rfl, hs2, hl2, hn2, hv2, hb2, hr2⟩
                    have hS1 := HSi.out
                    have hlt5 := (Array.getElem?_eq_some_iff.1 hS1.box).1
                    have hne : c12 ≠ b5 := fun e => by
                      have h1 := HQ1.out
                      rw [e, hS1.box] at h1
                      simp at h1
                    have q4 : w4.heap[b5]? = some (.cells #[.pointer (some ⟨X, 0, none⟩)] 24) := (hb2.block b5 hlt5).trans hS1.box
                    have z5 : w4.frozen? ⟨b5, 0, none⟩ = false := by simp only [World.frozen?, q4]; rfl
                    have hg2 : ∀ k, k < W1.heap.size → G2 k = .out := fun k hk => by
                      by_cases e : G2 k = .out
                      · exact e
                      · have := hr2 k e; omega
                    obtain ⟨w5, hw5⟩ : ∃ w5, w5 = w4.setCell ⟨b5, 0, none⟩ (.pointer (some ⟨X2, 0, none⟩)) := ⟨_, rfl⟩
                    have q5 : w5.heap[b5]? = some (.cells #[.pointer (some ⟨X2, 0, none⟩)] 24) := by
                      rw [hw5]
                      simp [World.setCell, Array.getElem?_modify, q4]
                    have k45 : ∀ {D : Nat → Prop}, ¬ D b5 → Kp D w4 w5 := fun {D} hD => by rw [hw5]; exact (Kp.refl _ w4).set (fun h => absurd h hD) _
                    have x5 : w5.cell? ⟨b5, 0, none⟩ = some (.pointer (some ⟨X2, 0, none⟩)) := by simp only [World.cell?, q5]; rfl
                    have t5 : Tr (fun r => r = .out) G w4 G w5 := ⟨k45 (fun h => h hS1.boxO), fun _ _ => rfl⟩
                    have so5 : StoreAt G X A l fs V w5 := (hS1.store.up hb2).tr t5 (fun r h1 h2 h3 => h1 h3) ((hS1.store.up hb2).out.up t5.kp.size)
                    have t5n : Tr (fun r => r = .out) G2 w4 G2 w5 := ⟨k45 (fun h => h (hg2 b5 hlt5)), fun _ _ => rfl⟩
                    have sn5 : StoreAt G2 X2 A l f2 V2 w5 := hs2.tr t5n (fun r h1 h2 h3 => h1 h3) (hs2.out.up t5n.kp.size)
                    have hB := hS1.low.size
                    have low4 : Below w.heap.size w w4 := hS1.low.trans (hb2.mono hB)
                    have low5 : Below w.heap.size w w5 := low4.trans ((k45 (D := fun k => k < w.heap.size) (fun h => by have := hS1.boxB; omega)).low1 low4.size)
                    have c5 : w5.heap[c12]? = some (.cells #[.int .i64 kd, .slice ua rs.length uc, .int .i64 nm] 31) :=
                      ((k45 (D := fun k => k ≠ b5) (fun h => h rfl)).block c12 (Nat.lt_of_lt_of_le (Array.getElem?_eq_some_iff.1 HQ1.out).1 hb2.size) hne).trans ((hb2.block c12 (Array.getElem?_eq_some_iff.1 HQ1.out).1).trans HQ1.out)
                    have kW5 : Kp (fun k => G k = .out ∧ ∀ c f, W1.heap[k]? ≠ some (Obj.cells c 24 f)) W1 w5 := (Kp.of hb2).trans (k45 (fun h => h.2 _ _ hS1.box))
                    have HSO := Lib.hid so5
                    have HSN := Lib.hid (And.intro sn5 (And.intro hl2 (And.intro hn2 (And.intro hv2 hr2))))
                    have HG2 := Lib.hid hg2
                    have HL5 := Lib.hid low5
                    have HC5 := Lib.hid c5
                    have HK5 := Lib.hid kW5
                    have HQ5 := Lib.hid q5
                    have HLT5 := Lib.hid hlt5
                    have HW5 := Lib.hid hw5
                    have x4 : w4.cell? ⟨b5, 0, none⟩ = some (.pointer (some ⟨X, 0, none⟩)) := by simp only [World.cell?, q4]; rfl
                    clear hs2 hl2 hn2 hv2 hb2 hr2 hS1 hlt5 hne q4 hg2 hw5 q5 k45 t5 so5 t5n sn5 hB low4 low5 c5 kW5
                    go_upto_region 40 with fail
                    rw [← HW5.out]
                    clear z5 x4 HW5
                    go_wp2_with fail
                    refine (undo_any (n := 0) w5 HSO.out HSi.out.len HLV.out (by have := HVN.out.1; have := HN3.out; omega) (by unfold I64; omega)).mono ?_
                    rintro e w6 ⟨he, f6, V6, hs6, hl6, hn6, hv6, t6⟩
                    obtain ⟨cc, hcc⟩ : ∃ cc : Int, cc = (if 0 ≤ (0 : Int) ∧ (0 : Int) ≤ (l.length : Int) then 0 else 2) := ⟨_, rfl⟩
                    rw [← hcc] at he
                    clear hcc
                    subst he
                    obtain ⟨L0, hL0⟩ : ∃ L0, L0 = undone l 0 := ⟨_, rfl⟩
                    rw [← hL0] at hs6 hl6
                    have c6 := (t6.cells_out HC5.out HG12.out (fun h => h.1 rfl)).1
                    have x1 : w6.cell? ⟨c12, 1, none⟩ = some (.slice ua rs.length uc) := by simp only [World.cell?, c6]; rfl
                    have HS6 := Lib.hid (And.intro hs6 (And.intro hl6 hn6))
                    have HT6 := Lib.hid t6
                    have HR6 := Lib.hid (HR.out.below (t6.low (fun h => h.1 rfl) HL5.out HSi.out.roles (Nat.le_refl _)))
                    clear hL0 hs6 hl6 hn6 hv6 t6 c6 x5
                    go_wp2_with fail
                    refine (ownRows_any rs _ _ HR6.out HOKR.out hrl).mono ?_
                    rintro e w7 ⟨v7, rfl, ho7, hb7⟩
                    have HS7 := Lib.hid (HS6.out.1.up hb7)
                    have HX7 : Hid (RowsIn w7 (fun k => G k = .out) v7 rs) := Lib.hid (ho7.in.sub (fun k _ hk => HS6.out.1.out k hk))
                    have HT7 := Lib.hid (HT6.out.trans (Tr.up hb7))
                    clear ho7 hb7 x1
                    go_wp2_with fail
                    refine (add_any w7 HS7.out HS6.out.2.1 HX7.out HOKR.out hrl (by have := HVN.out.1; have := HN3.out; have := HS6.out.2.2; omega)).mono ?_
                    rintro e w8 ⟨he, G8, f8, V8, hs8, hl8, hn8, hv8, t8⟩
                    obtain ⟨c1, hc1⟩ : ∃ c1 : Int, c1 = (if mayB A rs = true then 0 else 2) := ⟨_, rfl⟩
                    obtain ⟨c2, hc2⟩ : ∃ c2 : Int, c2 = ((added A L0 rs).length : Int) - (L0.length : Int) := ⟨_, rfl⟩
                    rw [← hc1, ← hc2] at he
                    clear hc1 hc2
                    subst he
                    have t58 := HT7.out.trans t8
                    have nx : ¬ Own .out := fun h => h.1 rfl
                    have hs1 := HSi.out
                    have kn : Kp (fun k => ¬ (G2 k = .out)) w5 w8 := t58.kp.sub (fun k hk hx hy => by
                      have := HSN.out.2.2.2.2 k hx
                      rw [hs1.store.out k this] at hy
                      exact nx hy)
                    have sn8 := HSN.out.1.tr (G' := G2) (w' := w8) (ex := fun r => r = .out) ⟨kn, fun _ _ => rfl⟩ (fun r h1 h2 h3 => h1 h3) (HSN.out.1.out.up kn.size)
                    have HLf := Lib.hid (HLi.out.move (HK5.out.trans (t58.kp.sub (fun k hk hx hy => by rw [hx.1] at hy; exact nx hy))) (fun k hk _ => HG2.out k hk))
                    have HSf : Hid (St w w.heap.size b5 A N' w8 X2 G2 l f2 V2) := Lib.hid (by
                      refine ⟨sn8, HSN.out.2.1, ?_, (t58.cells_out HQ5.out hs1.boxO nx).1, HG2.out b5 HLT5.out, hs1.boxB, t58.low nx HL5.out hs1.roles (Nat.le_refl _), fun k hk => ?_, ?_, rfl⟩
                      · rw [HSN.out.2.2.2.1]; exact LowsP.nil _ _
                      · have := HSN.out.2.2.2.2 k hk
                        have := hs1.low.size
                        omega
                      · have := HSN.out.2.2.1
                        have := hs1.store.len
                        have := hs1.num
                        have := HVN.out.2
                        omega)
                    have HQf := Lib.hid (t58.cells_out HC5.out HG12.out nx).1
                    clear hs8 hl8 hn8 hv8 t8 t58 nx hs1 kn sn8
                    go_wp2
                    go_meet
                    case rel => exact ⟨_, X2, G2, l, f2, V2, rfl, HSf, HLf, HQf⟩
                  · have e2 : (kd == 2) = false := by simpa using k2
                    by_cases k3 : kd = 3
                    · have e3 : (kd == 3) = true := by simpa using k3
                      clear k0 k1 k2 k3 x1 x2
                      go_wp2_with fail
                      refine (try_any (bs := b5) (bp := c12) W1 HSi.out.store HSi.out.len HSi.out.lows HSi.out.box HQ1.out HSi.out.boxO HG12.out (HRG.out W1 HSi.out) HOKR.out hrl (by have := HVN.out.1; have := HN3.out; omega)).mono ?_
                      rintro e wt ⟨rfl, G4, f4, V4, hs4, hl4, hn4, hv4, t4⟩
                      have HS4 := Lib.hid (HSi.out.turn t4 (fun h => h.1 rfl) hs4 hl4 hv4 (N' := N') (by have := HVN.out.1; omega))
                      have HL4 := Lib.hid (HLi.out.tr t4 (fun h => h.1 rfl))
                      have HQ4 := Lib.hid (t4.cells_out HQ1.out HG12.out (fun h => h.1 rfl)).1
                      clear hs4 hl4 hn4 hv4 t4
                      go_wp2
                      go_meet
                      case rel => exact ⟨_, X, G4, l, f4, V4, rfl, HS4, HL4, HQ4⟩
                    · have e3 : (kd == 3) = false := by simpa using k3
                      have HS4 := Lib.hid (HSi.out.wide HVN.out.2)
                      clear k0 k1 k2 k3 x1 x2 x5
                      go_wp2
                      go_meet
                      case rel => exact ⟨_, X, G, l, fs, V, rfl, HS4, HLi, HQ1⟩
            case rest =>
              clear x0 HSi HLi HQ1 HW1 HC12 HLOW HNN hN3
              obtain ⟨lv2, X2, G2, l2, fs2, V2, rfl, HS2, HL2, HQ2⟩ := hcut
              have x5 : wc.cell? ⟨b5, 0, none⟩ = some (.pointer (some ⟨X2, 0, none⟩)) := by have := HS2.out.box; simp only [World.cell?, this]; rfl
              have x2 : wc.cell? ⟨c12, 2, none⟩ = some (.int .i64 nm) := by have := HQ2.out; simp only [World.cell?, this]; rfl
              have HNL : Hid (V2.N ≤ 2097152) := Lib.hid (by have := HS2.out.num; have := HN3.out; omega)
              go_wp2_with fail
              refine (holds_any wc HS2.out.store HNL.out _ HL2.out.in (nm, []) _ (RowIn.bare _ _) (okRow_bare HNUM.out)).mono ?_
              rintro e wh ⟨rfl, hbh⟩
              have HSh := Lib.hid (HS2.out.up hbh)
              have HLh := Lib.hid (HL2.out.up hbh)
              have HQh := Lib.hid ((hbh.block c12 (Array.getElem?_eq_some_iff.1 HQ2.out).1).trans HQ2.out)
              clear x5 x2 HS2 HL2 HQ2 hbh
              have x1 : wh.cell? ⟨c12, 1, none⟩ = some (.slice ua rs.length uc) := by have := HQh.out; simp only [World.cell?, this]; rfl
              go_wp2
              clear x1
              go_loopw [181] (fun k wr => ∃ j : Nat, k = .int .i64 (j : Int) ∧ j ≤ rs.length ∧ Hid (Below wh.heap.size wh wr)) (fun k _ => rs.length - (intOf k).toNat)
              case atStart => exact ⟨0, rfl, Nat.zero_le _, Lib.hid (Below.refl _ _)⟩
              case round =>
                obtain ⟨j, rfl, hjl, HBj⟩ := hrel
                by_cases h2 : j < rs.length
                · obtain ⟨gu, offu, rfl⟩ := HUA.out (fun e => by rw [e] at h2; simp at h2)
                  have HSj := Lib.hid (HSh.out.up HBj.out)
                  obtain ⟨r, hri⟩ : ∃ r, rs[j]? = some r := ⟨rs[j], List.getElem?_eq_getElem h2⟩
                  obtain ⟨ur, d0, d1, hur⟩ := (HR.out.below HSj.out.low).at hri
                  have hokr := HOKR.out r (List.mem_of_getElem? hri)
                  obtain ⟨rp, rl⟩ := r
                  simp only at d0 d1 hur
                  obtain ⟨ra, rc, rfl, _⟩ := hur.form
                  obtain ⟨c22, hc22⟩ : ∃ c22, c22 = wr.heap.size := ⟨_, rfl⟩
                  obtain ⟨wz, hwz⟩ : ∃ wz, wz = wr.alloc (.cells #[.int .i64 rp, .slice ra rl.length rc] 34) := ⟨_, rfl⟩
                  have hbz : Below wr.heap.size wr wz := by rw [hwz]; exact up_alloc _ _
                  have qz : wz.heap[c22]? = some (.cells #[.int .i64 rp, .slice ra rl.length rc] 34) := by rw [hwz, hc22]; exact heap_alloc_new _ _
                  have HSz := Lib.hid (HSj.out.up hbz)
                  have HLz := Lib.hid ((HLh.out.up HBj.out).up hbz)
                  have HUR := Lib.hid (hur.below hbz)
                  have HOR := Lib.hid hokr
                  have HBz := Lib.hid (HBj.out.trans (hbz.mono HBj.out.size))
                  have x5 : wz.cell? ⟨b5, 0, none⟩ = some (.pointer (some ⟨X2, 0, none⟩)) := by have := HSz.out.box; simp only [World.cell?, this]; rfl
                  obtain ⟨z0, z1, _, _⟩ := row2 qz
                  clear hri hur hokr hbz qz
                  go_upto_region 52 with fail
                  rw [← hwz, ← hc22]
                  clear hwz hc22 d0 d1
                  go_wp2_with fail
                  refine (holds_any wz HSz.out.store HNL.out _ HLz.out.in (rp, rl) _ ⟨_, rfl, HUR.out⟩ HOR.out).mono ?_
                  rintro e wy ⟨rfl, hby⟩
                  have HBy := Lib.hid (HBz.out.trans (hby.mono HBz.out.size))
                  clear hby z0 z1 x5
                  go_wp2
                  go_roundw
                  case rel => exact ⟨j + 1, by go_num, by omega, HBy⟩
                  case measure => simp only [intOf]; omega
                · have HSj := Lib.hid (HSh.out.up HBj.out)
                  have HLj := Lib.hid (HLh.out.up HBj.out)
                  clear HSh HLh HQh
                  rw [HN1.out] at HSj
                  go_wp2
                  go_roundw
                  case rel => exact ⟨i + 1, _, X2, G2, l2, fs2, V2, by go_num, rfl, by omega, HSj, HLj⟩
                  case measure => simp only [intOf]; omega
          · clear hil
            go_wp2
            go_ret
            exact ⟨rfl, HS.out.low⟩
end Go.Proofs.Ytmkoejpdoeblkaa
