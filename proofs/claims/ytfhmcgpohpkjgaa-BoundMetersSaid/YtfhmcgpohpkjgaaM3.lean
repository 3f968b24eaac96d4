/-
  The walk of the law BoundMeterKeeps: it returns true and leaves what was in memory. Conditions: the numbers are uint64, the lists are within the form's own reach.
-/
import Derived.Test.YtfhmcgpohpkjgaaM2
import Derived.Test.YtfhmcgpohpkjgaaO1
namespace Go.Proofs.Ytfhmcgpohpkjgaa
open Go.RowKit Plain

theorem MeterAt.apart {w w' : World} {b c r u : Nat} (h : MeterAt w b r u) (ha : Apart c w w') (hne : b ≠ c) : MeterAt w' b r u := by unfold MeterAt at *; rw [ha.block b hne]; exact h
theorem MeterAt.below {w w' : World} {b B r u : Nat} (h : MeterAt w b r u) (hb : Below B w w') (hB : b < B) : MeterAt w' b r u := by unfold MeterAt at *; rw [hb.block b hB]; exact h
theorem MeterAt.lt {w : World} {b r u : Nat} (h : MeterAt w b r u) : b < w.heap.size := lt_of_block h
theorem ReadsO.get {w : World} {B : Nat} {a : Option Addr} {n c : Nat} {l : List Nat} (h : ReadsO w B (.slice a n c) l) {i : Nat} (hi : i < l.length) : ∃ g off, a = some ⟨g, off, none⟩ ∧ g < B ∧ ∀ j, j < l.length → w.cell? ⟨g, off + j, none⟩ = some (.int .u64 ((l[j]?.getD 0 : Nat) : Int)) := by
  obtain ⟨a', cap, e, h⟩ := h
  simp only [Value.slice.injEq] at e
  obtain ⟨rfl, rfl, rfl⟩ := e
  exact h.resolve_left (fun e => by rw [e] at hi; simp at hi)
theorem below_cells {w w' : World} {B : Nat} (h : Below B w w') {p : Addr} {v : Value} (hp : p.block < B) (hc : w.cell? p = some v) : w'.cell? p = some v := (h.cell hp).trans hc

def KeepRel (L : Nat) (w : World) (x k : Value) (wr : World) : Prop :=
  ∃ u r i : Nat, x = .int .u64 (u : Int) ∧ k = .int .i64 (i : Int) ∧ L = u + r ∧ MeterAt wr w.heap.size r u ∧ MeterAt wr (w.heap.size + 1) L 0 ∧ Below w.heap.size w wr

set_option maxRecDepth 100000 in
set_option maxHeartbeats 16000000 in
theorem keeps_walk (L : Nat) (hL : L < 18446744073709551616) (v : Value) (l : List Nat) (q : Value) (f : List Nat) {w : World} (hv : U64Arg w v l) (hq : U64Arg w q f) :
    Calls Try.prog 13 #[.int .u64 (L : Int), v, q] w fun e w' => e = .returned (.bool true) ∧ Below w.heap.size w w' := by
  obtain ⟨hvr, _, hlu, hll⟩ := hv
  obtain ⟨hqr, _, hfu, hfl⟩ := hq
  obtain ⟨a, ca, rfl, _⟩ := id hvr
  obtain ⟨b, cb, rfl, _⟩ := id hqr
  have HV := Lib.hid hvr
  have HQ := Lib.hid hqr
  have HLU := Lib.hid hlu
  have HFU := Lib.hid hfu
  clear hvr hqr hlu hfu
  go_enter Try.func13, Try.ntmps13
  go_wp2_with fail
  refine (new_any L w).mono ?_
  rintro e w1 ⟨rfl, hm1, hb1, hs1⟩
  go_wp2_with fail
  refine (new_any L w1).mono ?_
  rintro e w2 ⟨rfl, hm2, hb2, hs2⟩
  rw [hs1] at hm2 ⊢
  have M1 := Lib.hid (hm1.below hb2 (by omega))
  have M2 := Lib.hid hm2
  have B2 := Lib.hid (hb1.trans (hb2.mono (by omega)))
  clear hm1 hm2 hb1 hb2 hs1 hs2
  go_wp2
  go_loopw [9, 19] (fun x k wr => KeepRel L w x k wr) (fun _ k _ => l.length - (intOf k).toNat)
  case atStart => exact ⟨0, L, 0, rfl, rfl, by omega, M1.out, M2.out, B2.out⟩
  case round =>
    obtain ⟨u, r, i, rfl, rfl, hur, hm, ho, hnx⟩ := hrel
    have HM := Lib.hid hm
    have HO := Lib.hid ho
    have HUR := Lib.hid hur
    have NX := Lib.hid hnx
    clear hm ho hnx hur
    by_cases h1 : i < l.length
    · obtain ⟨g, off, rfl, hg, hc⟩ := ReadsO.get HV.out h1
      obtain ⟨n, hn⟩ : ∃ n, l[i]?.getD 0 = n := ⟨_, rfl⟩
      have hnb : n < 18446744073709551616 := by rw [← hn]; exact HLU.out i
      have cc := hc i h1
      rw [hn] at cc
      have c0 := below_cells NX.out hg cc
      have hur := HUR.out
      have hle : u ≤ L := by omega
      have hur2 : u + r < 18446744073709551616 := by omega
      clear hc cc hn
      by_cases hnr : n ≤ r
      · have hcond : (n : Int) ≤ (L : Int) - (u : Int) := by omega
        clear hur
        go_wp2_with fail
        refine (spend_yes w.heap.size r u n hur2 hnr _ HM.out).mono ?_
        rintro e w3 ⟨rfl, hm, ha⟩
        obtain ⟨u1, hu1⟩ : ∃ u1 : Nat, (u1 : Int) = (u : Int) + (n : Int) := ⟨u + n, by omega⟩
        obtain ⟨r1, hr1⟩ : ∃ r1 : Nat, r1 = r - n := ⟨_, rfl⟩
        have hU1 := Lib.hid (show L = u1 + r1 by have := HUR.out; omega)
        rw [show u + n = u1 by omega, ← hr1] at hm
        have Mw3 := Lib.hid hm
        have Ow3 := Lib.hid (HO.out.apart ha (by omega))
        have Nw3 := Lib.hid (ha.below NX.out (by omega))
        clear hm ha HM HO NX c0 hr1 hcond
        have hsum : (u : Int) + (n : Int) < 18446744073709551616 := by omega
        go_wp2_with fail
        rw [← hu1]
        clear hsum hle hur2 hu1 hnr
        have hL1 := hU1.out
        have hle : u1 ≤ L := by omega
        have hur : u1 + r1 < 18446744073709551616 := by omega
        have n1 : ((u1 : Int) != (u1 : Int)) = false := by simp
        have n2 : ((r1 : Int) != (L : Int) - (u1 : Int)) = false := by simp; omega
        clear hL1
        go_wp2_with fail
        refine (used_any w.heap.size r1 u1 _ Mw3.out).mono ?_
        rintro e wa ⟨rfl, hm, ha⟩
        have Mwa := Lib.hid hm
        have Owa := Lib.hid (Ow3.out.apart ha (by omega))
        have Nwa := Lib.hid (ha.below Nw3.out (by omega))
        clear hm ha Mw3 Ow3 Nw3
        go_wp2_with fail
        refine (left_any w.heap.size r1 u1 hur _ Mwa.out).mono ?_
        rintro e wb ⟨rfl, hm, ha⟩
        have Mwb := Lib.hid hm
        have Owb := Lib.hid (Owa.out.apart ha (by omega))
        have Nwb := Lib.hid (ha.below Nwa.out (by omega))
        clear hm ha Mwa Owa Nwa
        go_wp2_with fail
        refine (used_any (w.heap.size + 1) L 0 _ Owb.out).mono ?_
        rintro e wc ⟨rfl, hm, ha⟩
        have Owc := Lib.hid hm
        have Mwc := Lib.hid (Mwb.out.apart ha (by omega))
        have Nwc := Lib.hid (ha.below Nwb.out (by omega))
        clear hm ha Mwb Owb Nwb
        clear n1 n2
        by_cases h2 : i < f.length
        · obtain ⟨gf, of, rfl, hgf, hcf⟩ := ReadsO.get HQ.out h2
          obtain ⟨m, hmf⟩ : ∃ m, f[i]?.getD 0 = m := ⟨_, rfl⟩
          have hmb : m < 18446744073709551616 := by rw [← hmf]; exact HFU.out i
          have cf := hcf i h2
          rw [hmf] at cf
          have cfw := below_cells Nwc.out hgf cf
          go_wp2_with fail
          refine (refund_any w.heap.size r1 u1 m hur _ Mwc.out).mono ?_
          rintro e w5 ⟨rfl, hm, ha⟩
          have Mw5 := Lib.hid hm
          have Ow5 := Lib.hid (Owc.out.apart ha (by omega))
          have Nw5 := Lib.hid (ha.below Nwc.out (by omega))
          clear hm ha Mwc Owc Nwc cfw
          have cfw := below_cells Nw5.out hgf cf
          by_cases h3 : m < u1
          · rw [Nat.min_eq_left (Nat.le_of_lt h3)] at Mw5
            obtain ⟨u2, hu2⟩ : ∃ u2 : Nat, (u2 : Int) = (u1 : Int) - (m : Int) := ⟨u1 - m, by omega⟩
            obtain ⟨r2, hr2⟩ : ∃ r2 : Nat, r2 = r1 + m := ⟨_, rfl⟩
            rw [show u1 - m = u2 by omega, ← hr2] at Mw5
            have hU2 := Lib.hid (show L = u2 + r2 by have := hU1.out; omega)
            have hle2 : u2 ≤ L := by have := hU2.out; omega
            have hur2 : u2 + r2 < 18446744073709551616 := by have := hU2.out; omega
            have n1 : ((u2 : Int) != (u1 : Int) - (m : Int)) = false := by simp; omega
            have n2 : ((r2 : Int) != (L : Int) - ((u1 : Int) - (m : Int))) = false := by simp; have := hU2.out; omega
            clear hr2
            go_wp2_with fail
            refine (used_any w.heap.size r2 u2 _ Mw5.out).mono ?_
            rintro e wd ⟨rfl, hm, ha⟩
            have Mwd := Lib.hid hm
            have Owd := Lib.hid (Ow5.out.apart ha (by omega))
            have Nwd := Lib.hid (ha.below Nw5.out (by omega))
            clear hm ha Mw5 Ow5 Nw5
            go_wp2_with fail
            refine (left_any w.heap.size r2 u2 hur2 _ Mwd.out).mono ?_
            rintro e wf ⟨rfl, hm, ha⟩
            have Mwf := Lib.hid hm
            have Owf := Lib.hid (Owd.out.apart ha (by omega))
            have Nwf := Lib.hid (ha.below Nwd.out (by omega))
            clear hm ha Mwd Owd Nwd
            go_wp2
            go_roundw
            case rel => exact ⟨u2, r2, i + 1, by rw [hu2], by go_num, hU2.out, Mwf.out, Owf.out, Nwf.out⟩
            case measure => simp only [intOf]; omega
          · rw [Nat.min_eq_right (by omega), Nat.sub_self] at Mw5
            obtain ⟨r2, hr2⟩ : ∃ r2 : Nat, r2 = r1 + u1 := ⟨_, rfl⟩
            rw [← hr2] at Mw5
            have hU2 := Lib.hid (show L = 0 + r2 by have := hU1.out; omega)
            have hur2 : 0 + r2 < 18446744073709551616 := by have := hU2.out; omega
            have n1 : ((0 : Int) != 0) = false := by simp
            have n2 : ((r2 : Int) != (L : Int)) = false := by simp; have := hU2.out; omega
            clear hr2
            go_wp2_with fail
            refine (used_any w.heap.size r2 0 _ Mw5.out).mono ?_
            rintro e wd ⟨rfl, hm, ha⟩
            have Mwd := Lib.hid hm
            have Owd := Lib.hid (Ow5.out.apart ha (by omega))
            have Nwd := Lib.hid (ha.below Nw5.out (by omega))
            clear hm ha Mw5 Ow5 Nw5
            go_wp2_with fail
            refine (left_any w.heap.size r2 0 hur2 _ Mwd.out).mono ?_
            rintro e wf ⟨rfl, hm, ha⟩
            have Mwf := Lib.hid hm
            have Owf := Lib.hid (Owd.out.apart ha (by omega))
            have Nwf := Lib.hid (ha.below Nwd.out (by omega))
            clear hm ha Mwd Owd Nwd
            go_wp2
            go_roundw
            case rel => exact ⟨0, r2, i + 1, by go_num, by go_num, hU2.out, Mwf.out, Owf.out, Nwf.out⟩
            case measure => simp only [intOf]; omega
        · go_wp2
          go_roundw
          case rel => exact ⟨u1, r1, i + 1, by go_num, by go_num, hU1.out, Mwc.out, Owc.out, Nwc.out⟩
          case measure => simp only [intOf]; omega
      · have hcond : ¬ (n : Int) ≤ (L : Int) - (u : Int) := by omega
        clear hur
        go_wp2_with fail
        refine (spend_no w.heap.size r u n hur2 (by omega) _ HM.out).mono ?_
        rintro e w3 ⟨rfl, hm, ha⟩
        obtain ⟨u1, hu1⟩ : ∃ u1 : Nat, u1 = u := ⟨u, rfl⟩
        obtain ⟨r1, hr1⟩ : ∃ r1 : Nat, r1 = r := ⟨_, rfl⟩
        have hU1 := Lib.hid (show L = u1 + r1 by have := HUR.out; omega)
        rw [← hr1, ← hu1] at hm
        rw [← hu1]
        have Mw3 := Lib.hid hm
        have Ow3 := Lib.hid (HO.out.apart ha (by omega))
        have Nw3 := Lib.hid (ha.below NX.out (by omega))
        clear hm ha HM HO NX c0 hr1 hcond hle hur2 hu1 hnr
        have hL1 := hU1.out
        have hle : u1 ≤ L := by omega
        have hur : u1 + r1 < 18446744073709551616 := by omega
        have n1 : ((u1 : Int) != (u1 : Int)) = false := by simp
        have n2 : ((r1 : Int) != (L : Int) - (u1 : Int)) = false := by simp; omega
        clear hL1
        go_wp2_with fail
        refine (used_any w.heap.size r1 u1 _ Mw3.out).mono ?_
        rintro e wa ⟨rfl, hm, ha⟩
        have Mwa := Lib.hid hm
        have Owa := Lib.hid (Ow3.out.apart ha (by omega))
        have Nwa := Lib.hid (ha.below Nw3.out (by omega))
        clear hm ha Mw3 Ow3 Nw3
        go_wp2_with fail
        refine (left_any w.heap.size r1 u1 hur _ Mwa.out).mono ?_
        rintro e wb ⟨rfl, hm, ha⟩
        have Mwb := Lib.hid hm
        have Owb := Lib.hid (Owa.out.apart ha (by omega))
        have Nwb := Lib.hid (ha.below Nwa.out (by omega))
        clear hm ha Mwa Owa Nwa
        go_wp2_with fail
        refine (used_any (w.heap.size + 1) L 0 _ Owb.out).mono ?_
        rintro e wc ⟨rfl, hm, ha⟩
        have Owc := Lib.hid hm
        have Mwc := Lib.hid (Mwb.out.apart ha (by omega))
        have Nwc := Lib.hid (ha.below Nwb.out (by omega))
        clear hm ha Mwb Owb Nwb
        clear n1 n2
        by_cases h2 : i < f.length
        · obtain ⟨gf, of, rfl, hgf, hcf⟩ := ReadsO.get HQ.out h2
          obtain ⟨m, hmf⟩ : ∃ m, f[i]?.getD 0 = m := ⟨_, rfl⟩
          have hmb : m < 18446744073709551616 := by rw [← hmf]; exact HFU.out i
          have cf := hcf i h2
          rw [hmf] at cf
          have cfw := below_cells Nwc.out hgf cf
          go_wp2_with fail
          refine (refund_any w.heap.size r1 u1 m hur _ Mwc.out).mono ?_
          rintro e w5 ⟨rfl, hm, ha⟩
          have Mw5 := Lib.hid hm
          have Ow5 := Lib.hid (Owc.out.apart ha (by omega))
          have Nw5 := Lib.hid (ha.below Nwc.out (by omega))
          clear hm ha Mwc Owc Nwc cfw
          have cfw := below_cells Nw5.out hgf cf
          by_cases h3 : m < u1
          · rw [Nat.min_eq_left (Nat.le_of_lt h3)] at Mw5
            obtain ⟨u2, hu2⟩ : ∃ u2 : Nat, (u2 : Int) = (u1 : Int) - (m : Int) := ⟨u1 - m, by omega⟩
            obtain ⟨r2, hr2⟩ : ∃ r2 : Nat, r2 = r1 + m := ⟨_, rfl⟩
            rw [show u1 - m = u2 by omega, ← hr2] at Mw5
            have hU2 := Lib.hid (show L = u2 + r2 by have := hU1.out; omega)
            have hle2 : u2 ≤ L := by have := hU2.out; omega
            have hur2 : u2 + r2 < 18446744073709551616 := by have := hU2.out; omega
            have n1 : ((u2 : Int) != (u1 : Int) - (m : Int)) = false := by simp; omega
            have n2 : ((r2 : Int) != (L : Int) - ((u1 : Int) - (m : Int))) = false := by simp; have := hU2.out; omega
            clear hr2
            go_wp2_with fail
            refine (used_any w.heap.size r2 u2 _ Mw5.out).mono ?_
            rintro e wd ⟨rfl, hm, ha⟩
            have Mwd := Lib.hid hm
            have Owd := Lib.hid (Ow5.out.apart ha (by omega))
            have Nwd := Lib.hid (ha.below Nw5.out (by omega))
            clear hm ha Mw5 Ow5 Nw5
            go_wp2_with fail
            refine (left_any w.heap.size r2 u2 hur2 _ Mwd.out).mono ?_
            rintro e wf ⟨rfl, hm, ha⟩
            have Mwf := Lib.hid hm
            have Owf := Lib.hid (Owd.out.apart ha (by omega))
            have Nwf := Lib.hid (ha.below Nwd.out (by omega))
            clear hm ha Mwd Owd Nwd
            go_wp2
            go_roundw
            case rel => exact ⟨u2, r2, i + 1, by rw [hu2], by go_num, hU2.out, Mwf.out, Owf.out, Nwf.out⟩
            case measure => simp only [intOf]; omega
          · rw [Nat.min_eq_right (by omega), Nat.sub_self] at Mw5
            obtain ⟨r2, hr2⟩ : ∃ r2 : Nat, r2 = r1 + u1 := ⟨_, rfl⟩
            rw [← hr2] at Mw5
            have hU2 := Lib.hid (show L = 0 + r2 by have := hU1.out; omega)
            have hur2 : 0 + r2 < 18446744073709551616 := by have := hU2.out; omega
            have n1 : ((0 : Int) != 0) = false := by simp
            have n2 : ((r2 : Int) != (L : Int)) = false := by simp; have := hU2.out; omega
            clear hr2
            go_wp2_with fail
            refine (used_any w.heap.size r2 0 _ Mw5.out).mono ?_
            rintro e wd ⟨rfl, hm, ha⟩
            have Mwd := Lib.hid hm
            have Owd := Lib.hid (Ow5.out.apart ha (by omega))
            have Nwd := Lib.hid (ha.below Nw5.out (by omega))
            clear hm ha Mw5 Ow5 Nw5
            go_wp2_with fail
            refine (left_any w.heap.size r2 0 hur2 _ Mwd.out).mono ?_
            rintro e wf ⟨rfl, hm, ha⟩
            have Mwf := Lib.hid hm
            have Owf := Lib.hid (Owd.out.apart ha (by omega))
            have Nwf := Lib.hid (ha.below Nwd.out (by omega))
            clear hm ha Mwd Owd Nwd
            go_wp2
            go_roundw
            case rel => exact ⟨0, r2, i + 1, by go_num, by go_num, hU2.out, Mwf.out, Owf.out, Nwf.out⟩
            case measure => simp only [intOf]; omega
        · go_wp2
          go_roundw
          case rel => exact ⟨u1, r1, i + 1, by go_num, by go_num, hU1.out, Mwc.out, Owc.out, Nwc.out⟩
          case measure => simp only [intOf]; omega
    · have hur := HUR.out
      have hu : u + r < 18446744073709551616 := by omega
      have e1 : ((L : Int) == (L : Int)) = true := by simp
      have e2 : ((u : Int) == (u : Int)) = true := by simp
      obtain ⟨wx, hwx⟩ : ∃ wx, wx = wr := ⟨_, rfl⟩
      rw [← hwx] at HM HO NX ⊢
      clear hur hwx
      have Mw3 := HM
      have Ow3 := HO
      have Nw3 := NX
      go_wp2_with fail
      refine (left_any (w.heap.size + 1) L 0 (by omega) _ HO.out).mono ?_
      rintro e wa ⟨rfl, hm, ha⟩
      have Owa := Lib.hid hm
      have Mwa := Lib.hid (HM.out.apart ha (by omega))
      have Nwa := Lib.hid (ha.below NX.out (by omega))
      clear hm ha
      go_wp2_with fail
      refine (spend_yes (w.heap.size + 1) L 0 L (by omega) (Nat.le_refl _) _ Owa.out).mono ?_
      rintro e wb ⟨rfl, hm, ha⟩
      rw [Nat.sub_self, Nat.zero_add] at hm
      have Owb := Lib.hid hm
      have Mwb := Lib.hid (Mwa.out.apart ha (by omega))
      have Nwb := Lib.hid (ha.below Nwa.out (by omega))
      clear hm ha
      go_wp2_with fail
      refine (left_any (w.heap.size + 1) 0 L (by omega) _ Owb.out).mono ?_
      rintro e wc ⟨rfl, hm, ha⟩
      have Mwc := Lib.hid (Mwb.out.apart ha (by omega))
      have Nwc := Lib.hid (ha.below Nwb.out (by omega))
      clear hm ha
      go_wp2_with fail
      refine (used_any w.heap.size r u _ Mwc.out).mono ?_
      rintro e wd ⟨rfl, hm, ha⟩
      have Nwd := Lib.hid (ha.below Nwc.out (by omega))
      clear hm ha
      go_wp2
      go_ret
      exact ⟨rfl, Nwd.out⟩

theorem keeps_row (L : Nat) (hL : L < 18446744073709551616) (v : Value) (l : List Nat) {w : World} (hv : U64Arg w v l) (q : Value) (f : List Nat) (hq : U64Arg w q f) :
    Calls Try.prog 13 #[.int .u64 (L : Int), v, q] w fun e w' => e = .returned (.bool true) ∧ Below w.heap.size w w' := keeps_walk L hL v l q f hv hq

end Go.Proofs.Ytfhmcgpohpkjgaa
