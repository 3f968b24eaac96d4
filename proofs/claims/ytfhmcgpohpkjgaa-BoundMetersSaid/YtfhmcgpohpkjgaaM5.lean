/-
  The walk of the law BoundMeters: it returns true and leaves what was in memory. Conditions: the script reads as operations within the form's own reach.
-/
import Derived.Test.YtfhmcgpohpkjgaaM4
import Derived.Test.YtfhmcgpohpkjgaaM3
import Derived.Test.YtfhmcgpohpkjgaaW9
import Derived.Deep.RegionHeld3
import Derived.Deep.DrawnRows
namespace Go.Proofs.Ytfhmcgpohpkjgaa
open Go.RowKit Plain
attribute [local go_sem ↓] Go.wp_at_zero Go.wp_at_succ

/-! ### The first meters -/
def pn (N : Nat) (b : Nat → Nat) (i : Nat) : Value := if i < N then ptr (b i) else .pointer none
structure MP (w : World) (M R N : Nat) (b c : Nat → Nat) (wr : World) : Prop where
  below : Below w.heap.size w wr
  gm : w.heap.size ≤ M
  gr : w.heap.size ≤ R
  gb : ∀ i, i < N → w.heap.size ≤ b i
  gc : ∀ i, i < N → w.heap.size ≤ c i
  ms : wr.heap[M]? = some (.cells #[pn N b 0, pn N b 1, pn N b 2, .pointer none] 42 (0, 0))
  rs : wr.heap[R]? = some (.cells #[pn N c 0, pn N c 1, pn N c 2, .pointer none] 44 (0, 0))
  m : ∀ i, i < N → MeterAt wr (b i) 0 0
  k : ∀ i, i < N → RefAt wr (c i) 0 0
  nb : ∀ i j, i < N → j < N → i ≠ j → b i ≠ b j
  nc : ∀ i j, i < N → j < N → i ≠ j → c i ≠ c j
section
variable {w wr w2 w3 : World} {M R N : Nat} {b c : Nat → Nat}
theorem pn_next (b : Nat → Nat) (N v i : Nat) (hi : i ≠ N) : pn (N + 1) (upd b N v) i = pn N b i := by
  unfold pn
  by_cases h : i < N
  · rw [if_pos h, if_pos (by omega), upd_other _ _ hi]
  · rw [if_neg h, if_neg (by omega)]
theorem pn_new (b : Nat → Nat) (N v : Nat) : pn (N + 1) (upd b N v) N = ptr v := by unfold pn; rw [if_pos (by omega), upd_same]
theorem MP.next (h : MP w M R N b c wr) (hN : N < 3) (hMR : M ≠ R)
    (hm : MeterAt w2 wr.heap.size 0 0) (b1 : Below wr.heap.size wr w2)
    {B2 : Nat} (hB2 : B2 = (w2.setCell ⟨M, N, none⟩ (ptr wr.heap.size)).heap.size) (hr : RefAt w3 B2 0 0) (b2 : Below B2 (w2.setCell ⟨M, N, none⟩ (ptr wr.heap.size)) w3) :
    MP w M R (N + 1) (upd b N wr.heap.size) (upd c N B2) (w3.setCell ⟨R, N, none⟩ (ptr B2)) := by
  have hMl := lt_of_block h.ms
  have hRl := lt_of_block h.rs
  have hz2 := b1.size
  have hzs : (w2.setCell ⟨M, N, none⟩ (ptr wr.heap.size)).heap.size = w2.heap.size := by simp [World.setCell]
  have hw2 : wr.heap.size < w2.heap.size := lt_of_block hm
  have hbi : ∀ i, i < N → b i < wr.heap.size := fun i hi => lt_of_block (h.m i hi)
  have hci : ∀ i, i < N → c i < wr.heap.size := fun i hi => lt_of_block (h.k i hi)
  have hMb : ∀ i, i < N → M ≠ b i := fun i hi => types_ne h.ms (h.m i hi) (by decide)
  have hMc : ∀ i, i < N → M ≠ c i := fun i hi => types_ne h.ms (h.k i hi) (by decide)
  have hRb : ∀ i, i < N → R ≠ b i := fun i hi => types_ne h.rs (h.m i hi) (by decide)
  have hRc : ∀ i, i < N → R ≠ c i := fun i hi => types_ne h.rs (h.k i hi) (by decide)
  have old : ∀ x, x < wr.heap.size → x ≠ M → x ≠ R → (w3.setCell ⟨R, N, none⟩ (ptr B2)).heap[x]? = wr.heap[x]? := fun x hx h1 h2 => by
    rw [Below.heap_setCell _ _ _ _ h2, b2.block x (by omega), Below.heap_setCell _ _ _ _ h1, b1.block x hx]
  have hws := h.below.size
  refine ⟨?_, h.gm, h.gr, fun i hi => ?_, fun i hi => ?_, ?_, ?_, fun i hi => ?_, fun i hi => ?_, fun i j hi hj hij => ?_, fun i j hi hj hij => ?_⟩
  · exact ((((h.below.trans (b1.mono hws)).setCell (p := ⟨M, N, none⟩) h.gm _).trans (b2.mono (by omega))).setCell (p := ⟨R, N, none⟩) h.gr _)
  · by_cases e : i = N
    · subst e; rw [upd_same]; exact hws
    · rw [upd_other _ _ e]; exact h.gb i (by omega)
  · by_cases e : i = N
    · subst e; rw [upd_same]; omega
    · rw [upd_other _ _ e]; exact h.gc i (by omega)
  · rw [Below.heap_setCell _ _ _ _ hMR, b2.block M (by omega), block_setCell ((b1.block M hMl).trans h.ms)]
    rcases three hN with rfl | rfl | rfl <;> rfl
  · have h1 : (w2.setCell ⟨M, N, none⟩ (ptr wr.heap.size)).heap[R]? = wr.heap[R]? := by rw [Below.heap_setCell _ _ _ _ (fun e => hMR e.symm), b1.block R hRl]
    rw [block_setCell ((b2.block R (by omega)).trans (h1.trans h.rs))]
    rcases three hN with rfl | rfl | rfl <;> rfl
  · by_cases e : i = N
    · subst e; rw [upd_same]
      unfold MeterAt at *
      rw [Below.heap_setCell _ _ _ _ (show wr.heap.size ≠ R by omega), b2.block _ (by omega), Below.heap_setCell _ _ _ _ (show wr.heap.size ≠ M by omega)]; exact hm
    · rw [upd_other _ _ e]
      have hi' : i < N := by omega
      unfold MeterAt; rw [old _ (hbi i hi') (fun e2 => hMb i hi' e2.symm) (fun e2 => hRb i hi' e2.symm)]; exact h.m i hi'
  · by_cases e : i = N
    · subst e; rw [upd_same]
      unfold RefAt at *
      rw [Below.heap_setCell _ _ _ _ (show B2 ≠ R by omega)]; exact hr
    · rw [upd_other _ _ e]
      have hi' : i < N := by omega
      unfold RefAt; rw [old _ (hci i hi') (fun e2 => hMc i hi' e2.symm) (fun e2 => hRc i hi' e2.symm)]; exact h.k i hi'
  · by_cases e : i = N
    · subst e; rw [upd_same, upd_other _ _ (fun e => hij e.symm)]; have := hbi j (by omega); omega
    · by_cases e2 : j = N
      · subst e2; rw [upd_same, upd_other _ _ e]; have := hbi i (by omega); omega
      · rw [upd_other _ _ e, upd_other _ _ e2]; exact h.nb i j (by omega) (by omega) hij
  · by_cases e : i = N
    · subst e; rw [upd_same, upd_other _ _ (fun e => hij e.symm)]; have := hci j (by omega); omega
    · by_cases e2 : j = N
      · subst e2; rw [upd_same, upd_other _ _ e]; have := hci i (by omega); omega
      · rw [upd_other _ _ e, upd_other _ _ e2]; exact h.nc i j (by omega) (by omega) hij
theorem MP.done (h : MP w M R 3 b c wr) : MS w M R b c (fun _ => 0) (fun _ => 0) wr :=
  ⟨h.below, h.gm, h.gr, h.gb, h.gc, h.ms, h.rs, h.m, h.k, fun _ _ => by omega, h.nb, h.nc⟩
theorem MP.cm (h : MP w M R N b c wr) (hN : N < 3) : wr.cell? ⟨M, N, none⟩ = some (.pointer none) := by
  have := h.ms
  rcases three hN with rfl | rfl | rfl <;> simp only [World.cell?, this] <;> rfl
theorem MP.cr (h : MP w M R N b c wr) (hN : N < 3) : wr.cell? ⟨R, N, none⟩ = some (.pointer none) := by
  have := h.rs
  rcases three hN with rfl | rfl | rfl <;> simp only [World.cell?, this] <;> rfl
theorem MP.fm (h : MP w M R N b c wr) (o : Nat) : wr.frozen? ⟨M, o, none⟩ = false := by have := h.ms; simp [World.frozen?, this]
theorem MP.fr (h : MP w M R N b c wr) (o : Nat) : wr.frozen? ⟨R, o, none⟩ = false := by have := h.rs; simp [World.frozen?, this]
end
theorem frozen_below {w w' : World} {B : Nat} (h : Below B w w') {p : Addr} (hp : p.block < B) (hc : w.frozen? p = false) : w'.frozen? p = false := (World.frozen?_of_block (h.block _ hp)).trans hc

/-! ### The script -/
structure Opn where
  kind : Int
  m : Int
  n : Nat
def OpsAt (w : World) (B : Nat) (v : Value) (l : List Opn) : Prop :=
  ∃ (a : Option Addr) (cap : Nat), v = .slice a l.length cap ∧ (l = [] ∨ ∃ g off, a = some ⟨g, off, none⟩ ∧ g < B ∧
    ∀ (j : Nat) (o : Opn), l[j]? = some o → w.cell? ⟨g, off + j * 3, none⟩ = some (.int .i64 o.kind) ∧ w.cell? ⟨g, off + j * 3 + 1, none⟩ = some (.int .i64 o.m) ∧ w.cell? ⟨g, off + j * 3 + 2, none⟩ = some (.int .u64 (o.n : Int)))

set_option maxRecDepth 100000 in
set_option maxHeartbeats 32000000 in
theorem meters_walk (v : Value) (l : List Opn) {w : World} (hv : OpsAt w w.heap.size v l ∧ (∀ o, o ∈ l → o.n < 18446744073709551616) ∧ l.length ≤ 17592186043904) :
    Calls Try.prog 12 #[v] w fun e w' => e = .returned (.bool true) ∧ Below w.heap.size w w' := by
  obtain ⟨hv, hln, hll⟩ := hv
  obtain ⟨a, cap, rfl, ha⟩ := hv
  have HA := Lib.hid ha
  clear ha
  go_enter Try.func12, Try.ntmps12
  go_wp2
  have HP0 := Lib.hid (show MP w w.heap.size (w.heap.size + 1) 0 (fun _ => 0) (fun _ => 0) ((w.alloc (.cells #[.pointer none, .pointer none, .pointer none, .pointer none] 42)).alloc (.cells #[.pointer none, .pointer none, .pointer none, .pointer none] 44)) from by
    refine ⟨((Below.refl _ _).alloc (Nat.le_refl _) _).alloc (by simp) _, Nat.le_refl _, by omega, fun i hi => by omega, fun i hi => by omega, ?_, ?_, fun i hi => by omega, fun i hi => by omega, fun i j hi => by omega, fun i j hi => by omega⟩
    · rw [Below.heap_alloc _ _ _ (by simp)]; exact heap_alloc_new _ _
    · have := heap_alloc_new (w.alloc (.cells #[.pointer none, .pointer none, .pointer none, .pointer none] 42)) (.cells #[.pointer none, .pointer none, .pointer none, .pointer none] 44)
      simpa [pn] using this)
  generalize (w.alloc (.cells #[.pointer none, .pointer none, .pointer none, .pointer none] 42)).alloc (.cells #[.pointer none, .pointer none, .pointer none, .pointer none] 44) = W0 at HP0 ⊢
  obtain ⟨R, hR⟩ : ∃ R, R = w.heap.size + 1 := ⟨_, rfl⟩
  obtain ⟨M, hM⟩ : ∃ M, M = w.heap.size := ⟨_, rfl⟩
  have hMR : M ≠ R := by omega
  have HMW := Lib.hid hM
  have HP0 := Lib.hid (show MP w M R 0 (fun _ => 0) (fun _ => 0) W0 by rw [hM, hR]; exact HP0.out)
  rw [← hR, ← hM]
  clear hR hM
  go_loopw [10] (fun k wr => ∃ (N : Nat) (b c : Nat → Nat), k = .int .i64 (N : Int) ∧ N ≤ 3 ∧ MP w M R N b c wr) (fun k _ => 3 - (intOf k).toNat)
  case atStart => exact ⟨0, _, _, rfl, by omega, HP0.out⟩
  case round =>
    obtain ⟨N, b, c, rfl, hN3, hP⟩ := hrel
    have HP := Lib.hid hP
    clear hP
    by_cases hN : N < 3
    · have hNi : (N : Int) < 3 := by omega
      go_wp2_with fail
      refine (new_any 0 wr).mono ?_
      rintro e w2 ⟨rfl, hm, hb1, hs1⟩
      have hMl := lt_of_block HP.out.ms
      have hRl := lt_of_block HP.out.rs
      have k0 := below_cells hb1 (p := ⟨M, N, none⟩) hMl (HP.out.cm hN)
      have f0 := frozen_below hb1 (p := ⟨M, N, none⟩) hMl (HP.out.fm N)
      have HM2 := Lib.hid hm
      have B1 := Lib.hid hb1
      clear hm hb1 hs1
      go_wp2_with fail
      refine (refNew_any 0 _).mono ?_
      rintro e w3 ⟨rfl, hr, hb2, hs2⟩
      have hzs : (w2.setCell ⟨M, N, none⟩ (ptr wr.heap.size)).heap.size = w2.heap.size := by simp [World.setCell]
      have hr0 := below_cells B1.out (p := ⟨R, N, none⟩) hRl (HP.out.cr hN)
      have hf0 := frozen_below B1.out (p := ⟨R, N, none⟩) hRl (HP.out.fr N)
      have k1 : w3.cell? ⟨R, N, none⟩ = some (.pointer none) := below_cells hb2 (p := ⟨R, N, none⟩) (show R < _ by have := B1.out.size; simp [World.setCell]; omega) ((World.cell?_of_block (Below.heap_setCell w2 ⟨M, N, none⟩ _ R (fun e => hMR e.symm))).trans hr0)
      have f1 : w3.frozen? ⟨R, N, none⟩ = false := frozen_below hb2 (p := ⟨R, N, none⟩) (show R < _ by have := B1.out.size; simp [World.setCell]; omega) ((World.frozen?_of_block (Below.heap_setCell w2 ⟨M, N, none⟩ _ R (fun e => hMR e.symm))).trans hf0)
      have HN := Lib.hid (HP.out.next (B2 := w2.heap.size) hN hMR HM2.out B1.out hzs.symm (by rw [← hzs]; exact hr) (by rw [← hzs]; exact hb2))
      clear hr hb2 hs2 hr0 hf0 k0 f0 hzs
      go_wp2
      go_roundw
      case rel => exact ⟨N + 1, _, _, by go_num, by omega, HN.out⟩
      case measure => simp only [intOf]; omega
    · have e : N = 3 := by omega
      subst e
      have HS0 := Lib.hid HP.out.done
      clear HP hN
      go_wp2
      go_loopw [22] (fun k wr => ∃ (b c r u : Nat → Nat) (i : Nat), k = .int .i64 (i : Int) ∧ i ≤ l.length ∧ MS w M R b c r u wr) (fun k _ => l.length - (intOf k).toNat)
      case atStart => exact ⟨b, c, _, _, 0, rfl, Nat.zero_le _, HS0.out⟩
      case round =>
        clear HS0
        obtain ⟨b, c, r, u, i, rfl, hil, hS⟩ := hrel
        have HS := Lib.hid hS
        clear hS
        by_cases h1 : i < l.length
        · obtain ⟨g, off, rfl, hg, hcc⟩ := HA.out.resolve_left (fun e => by rw [e] at h1; simp at h1)
          obtain ⟨o, hoi⟩ : ∃ o, l[i]? = some o := ⟨l[i]'h1, List.getElem?_eq_getElem h1⟩
          obtain ⟨d0, d1, d2⟩ := hcc i o hoi
          have hob := hln o (List.mem_of_getElem? hoi)
          have d0 := below_cells HS.out.below (p := ⟨g, off + i * 3, none⟩) hg d0
          have d1 := below_cells HS.out.below (p := ⟨g, off + i * 3 + 1, none⟩) hg d1
          have d2 := below_cells HS.out.below (p := ⟨g, off + i * 3 + 2, none⟩) hg d2
          clear hcc hoi
          obtain ⟨Z, hZ⟩ : ∃ Z, Z = wr.heap.size := ⟨_, rfl⟩
          go_wp2_with fail
          generalize hwz : wr.alloc (.cells #[.int .i64 o.kind, .int .i64 o.m, .int .u64 (o.n : Int)] 48) = wz
          rw [← hZ]
          have hzH : wz.heap[Z]? = some (.cells #[.int .i64 o.kind, .int .i64 o.m, .int .u64 (o.n : Int)] 48 (0, 0)) := by rw [← hwz, hZ]; exact heap_alloc_new _ _
          have HZ := Lib.hid (HS.out.up (show Below wr.heap.size wr wz by rw [← hwz]; exact (Below.refl _ _).alloc (Nat.le_refl _) _))
          have HZb := Lib.hid (fun (k : Nat) (hk : k < 3) => types_ne hzH (HZ.out.m k hk) (by decide))
          have HZc := Lib.hid (fun (k : Nat) (hk : k < 3) => types_ne hzH (HZ.out.k k hk) (by decide))
          have HZM := Lib.hid (types_ne hzH HZ.out.ms (by decide))
          have HZl := Lib.hid (lt_of_block hzH)
          have HB0 := Lib.hid (show wz.cell? ⟨Z, 0, none⟩ = some (.int .i64 o.kind) by simp only [World.cell?, hzH]; rfl)
          have HB2 := Lib.hid (show wz.cell? ⟨Z, 2, none⟩ = some (.int .u64 (o.n : Int)) by simp only [World.cell?, hzH]; rfl)
          clear hwz hzH d0 d1 d2 HS hZ
          refine (mod_any o.m 4 (by omega) wz).mono ?_
          rintro e w' ⟨kk, rfl, hkk, rfl⟩
          have hk4 : kk < 4 := by omega
          have kb := HB0.out
          by_cases hk3 : kk < 3
          · have hbd := HZ.out.bd kk hk3
            by_cases e0 : o.kind = 0
            · have b0 : (o.kind == 0) = true := by simp [e0]
              have k2 := HB2.out
              have hki : (kk : Int) < 3 := by omega
              go_wp2_with fail
              refine (new_any o.n wz).mono ?_
              rintro e w2 ⟨rfl, hm, hb1, hs1⟩
              have k0 := below_cells hb1 (p := ⟨M, kk, none⟩) HZ.out.ltM (HZ.out.cm hk3)
              have f0 := frozen_below hb1 (p := ⟨M, kk, none⟩) HZ.out.ltM (HZ.out.fm kk)
              have hM2 := Lib.hid hm
              have B1 := Lib.hid hb1
              have hZM : Z ≠ M := HZM.out
              have k3 : (w2.setCell ⟨M, kk, none⟩ (ptr wz.heap.size)).cell? ⟨Z, 2, none⟩ = some (.int .u64 (o.n : Int)) := (World.cell?_of_block (Below.heap_setCell w2 ⟨M, kk, none⟩ _ Z hZM)).trans (below_cells hb1 (p := ⟨Z, 2, none⟩) HZl.out k2)
              clear hm hb1 hs1 kb
              go_wp2_with fail
              refine (refNew_any o.n _).mono ?_
              rintro e w3 ⟨rfl, hr, hb2, hs2⟩
              have hzs : (w2.setCell ⟨M, kk, none⟩ (ptr wz.heap.size)).heap.size = w2.heap.size := by simp [World.setCell]
              have hr0 := below_cells B1.out (p := ⟨R, kk, none⟩) HZ.out.ltR (HZ.out.cr hk3)
              have hf0 := frozen_below B1.out (p := ⟨R, kk, none⟩) HZ.out.ltR (HZ.out.fr kk)
              have hRz := HZ.out.ltR
              have k1 : w3.cell? ⟨R, kk, none⟩ = some (ptr (c kk)) := below_cells hb2 (p := ⟨R, kk, none⟩) (show R < _ by have := B1.out.size; simp [World.setCell]; omega) ((World.cell?_of_block (Below.heap_setCell w2 ⟨M, kk, none⟩ _ R (fun e => hMR e.symm))).trans hr0)
              have f1 : w3.frozen? ⟨R, kk, none⟩ = false := frozen_below hb2 (p := ⟨R, kk, none⟩) (show R < _ by have := B1.out.size; simp [World.setCell]; omega) ((World.frozen?_of_block (Below.heap_setCell w2 ⟨M, kk, none⟩ _ R (fun e => hMR e.symm))).trans hf0)
              have HN := Lib.hid (HZ.out.fresh (B2 := w2.heap.size) hk3 hob hM2.out B1.out hzs.symm (by rw [← hzs]; exact hr) (by rw [← hzs]; exact hb2))
              clear hr hb2 hs2 hr0 hf0 k0 f0 hzs k2 k3
              go_wp2
              go_roundw
              case rel => exact ⟨_, _, _, _, i + 1, by go_num, by omega, HN.out⟩
              case measure => simp only [intOf]; omega
            · by_cases e1 : o.kind = 1
              · have b0 : (o.kind == 0) = false := by simpa using e0
                have b1 : (o.kind == 1) = true := by simp [e1]
                by_cases hnr : o.n ≤ r kk
                · have k0 := HZ.out.cm hk3
                  have k1 := HZ.out.cr hk3
                  have k2 := HB2.out
                  go_wp2_with fail
                  go_region_held3 (fun w' => w'.cell? ⟨M, kk, none⟩ = some (.pointer (some ⟨b kk, 0, none⟩)) ∧ w'.cell? ⟨R, kk, none⟩ = some (.pointer (some ⟨c kk, 0, none⟩)) ∧ w'.cell? ⟨Z, 2, none⟩ = some (.int .u64 (o.n : Int)))
                    (first | exact ⟨k0, k1, k2⟩ | exact ⟨l0, l1, l2⟩ | exact ⟨m0, m1, m2⟩)
                    (first
                      | (go_at_call 32; refine (spend_yes (b kk) (r kk) (u kk) o.n hbd hnr _ (by exact HZ.out.m kk hk3)).mono ?_; rintro e v1 ⟨rfl, hm, ha⟩; have A1 : Apart (b kk) wz v1 := ⟨ha.os, ha.tape, ha.output, ha.size, ha.block⟩; have l0 := (World.cell?_of_block (A1.block M (HZ.out.Mb hk3))).trans k0; have l1 := (World.cell?_of_block (A1.block R (HZ.out.Rb hk3))).trans k1; have l2 := (World.cell?_of_block (A1.block Z (HZb.out kk hk3))).trans k2; have R1 := Lib.hid ((HZ.out.k kk hk3).apart A1 (fun e => HZ.out.bc hk3 hk3 e.symm)); clear ha)
                      | (go_at_call 33; refine (refSpend_yes (c kk) (r kk) (u kk) o.n hbd hnr _ (by exact R1.out)).mono ?_; rintro e v2 ⟨rfl, hr, ha⟩; have A2 : Apart (c kk) v1 v2 := ⟨ha.os, ha.tape, ha.output, ha.size, ha.block⟩; have m0 := (World.cell?_of_block (A2.block M (HZ.out.Mc hk3))).trans l0; have m1 := (World.cell?_of_block (A2.block R (HZ.out.Rc hk3))).trans l1; have m2 := (World.cell?_of_block (A2.block Z (HZc.out kk hk3))).trans l2; clear ha))
                  have HN := Lib.hid (HZ.out.turn hk3 hm A1 hr A2 (by omega))
                  clear k0 k1 k2 l0 l1 l2 m0 m1 m2 hm hr
                  go_wp2
                  go_roundw
                  case rel => exact ⟨b, c, _, _, i + 1, by go_num, by omega, HN.out⟩
                  case measure => simp only [intOf]; omega
                · have k0 := HZ.out.cm hk3
                  have k1 := HZ.out.cr hk3
                  have k2 := HB2.out
                  go_wp2_with fail
                  go_region_held3 (fun w' => w'.cell? ⟨M, kk, none⟩ = some (.pointer (some ⟨b kk, 0, none⟩)) ∧ w'.cell? ⟨R, kk, none⟩ = some (.pointer (some ⟨c kk, 0, none⟩)) ∧ w'.cell? ⟨Z, 2, none⟩ = some (.int .u64 (o.n : Int)))
                    (first | exact ⟨k0, k1, k2⟩ | exact ⟨l0, l1, l2⟩ | exact ⟨m0, m1, m2⟩)
                    (first
                      | (go_at_call 32; refine (spend_no (b kk) (r kk) (u kk) o.n hbd (by omega) _ (by exact HZ.out.m kk hk3)).mono ?_; rintro e v1 ⟨rfl, hm, ha⟩; have A1 : Apart (b kk) wz v1 := ⟨ha.os, ha.tape, ha.output, ha.size, ha.block⟩; have l0 := (World.cell?_of_block (A1.block M (HZ.out.Mb hk3))).trans k0; have l1 := (World.cell?_of_block (A1.block R (HZ.out.Rb hk3))).trans k1; have l2 := (World.cell?_of_block (A1.block Z (HZb.out kk hk3))).trans k2; have R1 := Lib.hid ((HZ.out.k kk hk3).apart A1 (fun e => HZ.out.bc hk3 hk3 e.symm)); clear ha)
                      | (go_at_call 33; refine (refSpend_no (c kk) (r kk) (u kk) o.n hbd (by omega) _ (by exact R1.out)).mono ?_; rintro e v2 ⟨rfl, hr, ha⟩; have A2 : Apart (c kk) v1 v2 := ⟨ha.os, ha.tape, ha.output, ha.size, ha.block⟩; have m0 := (World.cell?_of_block (A2.block M (HZ.out.Mc hk3))).trans l0; have m1 := (World.cell?_of_block (A2.block R (HZ.out.Rc hk3))).trans l1; have m2 := (World.cell?_of_block (A2.block Z (HZc.out kk hk3))).trans l2; clear ha))
                  have HN := Lib.hid (HZ.out.turn hk3 hm A1 hr A2 hbd)
                  clear k0 k1 k2 l0 l1 l2 m0 m1 m2 hm hr
                  go_wp2
                  go_roundw
                  case rel => exact ⟨b, c, _, _, i + 1, by go_num, by omega, HN.out⟩
                  case measure => simp only [intOf]; omega
              · by_cases e2 : o.kind = 2
                · have b0 : (o.kind == 0) = false := by simpa using e0
                  have b1 : (o.kind == 1) = false := by simpa using e1
                  have b2 : (o.kind == 2) = true := by simp [e2]
                  have k0 := HZ.out.cm hk3
                  have k2 := HB2.out
                  go_wp2_with fail
                  go_region_held3 (fun w' => w'.cell? ⟨M, kk, none⟩ = some (.pointer (some ⟨b kk, 0, none⟩)) ∧ w'.cell? ⟨Z, 2, none⟩ = some (.int .u64 (o.n : Int)))
                    (first | exact ⟨k0, k2⟩ | exact ⟨l0, l2⟩)
                    ((go_at_call 34; refine (refund_any (b kk) (r kk) (u kk) o.n hbd _ (by exact HZ.out.m kk hk3)).mono ?_; rintro e v1 ⟨rfl, hm, ha⟩; have A1 : Apart (b kk) wz v1 := ⟨ha.os, ha.tape, ha.output, ha.size, ha.block⟩; have l0 := (World.cell?_of_block (A1.block M (HZ.out.Mb hk3))).trans k0; have l2 := (World.cell?_of_block (A1.block Z (HZb.out kk hk3))).trans k2; have R1 := Lib.hid ((HZ.out.k kk hk3).apart A1 (fun e => HZ.out.bc hk3 hk3 e.symm)); have l1 := (World.cell?_of_block (A1.block R (HZ.out.Rb hk3))).trans (HZ.out.cr hk3); clear ha))
                  clear k0 k2 l0
                  go_wp2_with fail
                  go_region_held3 (fun w' => w'.cell? ⟨R, kk, none⟩ = some (.pointer (some ⟨c kk, 0, none⟩)) ∧ w'.cell? ⟨Z, 2, none⟩ = some (.int .u64 (o.n : Int)))
                    (first | exact ⟨l1, l2⟩ | exact ⟨m1, m2⟩)
                    ((go_at_call 35; refine (refRefund_any (c kk) (r kk) (u kk) o.n hbd _ (by exact R1.out)).mono ?_; rintro e v2 ⟨rfl, hr, ha⟩; have A2 : Apart (c kk) v1 v2 := ⟨ha.os, ha.tape, ha.output, ha.size, ha.block⟩; have m1 := (World.cell?_of_block (A2.block R (HZ.out.Rc hk3))).trans l1; have m2 := (World.cell?_of_block (A2.block Z (HZc.out kk hk3))).trans l2; clear ha))
                  have HN := Lib.hid (HZ.out.turn hk3 hm A1 hr A2 (by have := Nat.min_le_right o.n (u kk); omega))
                  clear l1 l2 m1 m2 hm hr
                  go_wp2
                  go_roundw
                  case rel => exact ⟨b, c, _, _, i + 1, by go_num, by omega, HN.out⟩
                  case measure => simp only [intOf]; omega
                · by_cases e3 : o.kind = 3
                  · have b0 : (o.kind == 0) = false := by simpa using e0
                    have b1 : (o.kind == 1) = false := by simpa using e1
                    have b2 : (o.kind == 2) = false := by simpa using e2
                    have b3 : (o.kind == 3) = true := by simp [e3]
                    have k0 := HZ.out.cm hk3
                    have k1 := HZ.out.cr hk3
                    go_wp2_with fail
                    go_region_held3 (fun w' => w'.cell? ⟨M, kk, none⟩ = some (.pointer (some ⟨b kk, 0, none⟩)) ∧ w'.cell? ⟨R, kk, none⟩ = some (.pointer (some ⟨c kk, 0, none⟩)))
                      (first | exact ⟨k0, k1⟩ | exact ⟨l0, l1⟩ | exact ⟨m0, m1⟩)
                      (first
                        | (go_at_call 36; refine (used_any (b kk) (r kk) (u kk) _ (by exact HZ.out.m kk hk3)).mono ?_; rintro e v1 ⟨rfl, hm, ha⟩; have A1 : Apart (b kk) wz v1 := ⟨ha.os, ha.tape, ha.output, ha.size, ha.block⟩; have l0 := (World.cell?_of_block (A1.block M (HZ.out.Mb hk3))).trans k0; have l1 := (World.cell?_of_block (A1.block R (HZ.out.Rb hk3))).trans k1; have R1 := Lib.hid ((HZ.out.k kk hk3).apart A1 (fun e => HZ.out.bc hk3 hk3 e.symm)); clear ha)
                        | (go_at_call 37; refine (refUsed_any (c kk) (r kk) (u kk) _ (by exact R1.out)).mono ?_; rintro e v2 ⟨rfl, hr, ha⟩; have A2 : Apart (c kk) v1 v2 := ⟨ha.os, ha.tape, ha.output, ha.size, ha.block⟩; have m0 := (World.cell?_of_block (A2.block M (HZ.out.Mc hk3))).trans l0; have m1 := (World.cell?_of_block (A2.block R (HZ.out.Rc hk3))).trans l1; clear ha; have bx : (((u kk : Nat) : Int) != ((u kk : Nat) : Int)) = false := by simp))
                    have HN := Lib.hid (HZ.out.turn hk3 hm A1 hr A2 (HZ.out.bd kk hk3))
                    clear k0 k1 l0 l1 m0 m1 hm hr
                    go_wp2
                    go_roundw
                    case rel => exact ⟨b, c, _, _, i + 1, by go_num, by omega, HN.out⟩
                    case measure => simp only [intOf]; omega
                  · by_cases e4 : o.kind = 4
                    · have b0 : (o.kind == 0) = false := by simpa using e0
                      have b1 : (o.kind == 1) = false := by simpa using e1
                      have b2 : (o.kind == 2) = false := by simpa using e2
                      have b3 : (o.kind == 3) = false := by simpa using e3
                      have b4 : (o.kind == 4) = true := by simp [e4]
                      have k0 := HZ.out.cm hk3
                      have k1 := HZ.out.cr hk3
                      go_wp2_with fail
                      go_region_held3 (fun w' => w'.cell? ⟨M, kk, none⟩ = some (.pointer (some ⟨b kk, 0, none⟩)) ∧ w'.cell? ⟨R, kk, none⟩ = some (.pointer (some ⟨c kk, 0, none⟩)))
                        (first | exact ⟨k0, k1⟩ | exact ⟨l0, l1⟩ | exact ⟨m0, m1⟩)
                        (first
                          | (go_at_call 38; refine (left_any (b kk) (r kk) (u kk) hbd _ (by exact HZ.out.m kk hk3)).mono ?_; rintro e v1 ⟨rfl, hm, ha⟩; have A1 : Apart (b kk) wz v1 := ⟨ha.os, ha.tape, ha.output, ha.size, ha.block⟩; have l0 := (World.cell?_of_block (A1.block M (HZ.out.Mb hk3))).trans k0; have l1 := (World.cell?_of_block (A1.block R (HZ.out.Rb hk3))).trans k1; have R1 := Lib.hid ((HZ.out.k kk hk3).apart A1 (fun e => HZ.out.bc hk3 hk3 e.symm)); clear ha)
                          | (go_at_call 39; refine (refLeft_any (c kk) (r kk) (u kk) hbd _ (by exact R1.out)).mono ?_; rintro e v2 ⟨rfl, hr, ha⟩; have A2 : Apart (c kk) v1 v2 := ⟨ha.os, ha.tape, ha.output, ha.size, ha.block⟩; have m0 := (World.cell?_of_block (A2.block M (HZ.out.Mc hk3))).trans l0; have m1 := (World.cell?_of_block (A2.block R (HZ.out.Rc hk3))).trans l1; clear ha; have bx : (((r kk : Nat) : Int) != ((r kk : Nat) : Int)) = false := by simp))
                      have HN := Lib.hid (HZ.out.turn hk3 hm A1 hr A2 (HZ.out.bd kk hk3))
                      clear k0 k1 l0 l1 m0 m1 hm hr
                      go_wp2
                      go_roundw
                      case rel => exact ⟨b, c, _, _, i + 1, by go_num, by omega, HN.out⟩
                      case measure => simp only [intOf]; omega
                    · have b0 : (o.kind == 0) = false := by simpa using e0
                      have b1 : (o.kind == 1) = false := by simpa using e1
                      have b2 : (o.kind == 2) = false := by simpa using e2
                      have b3 : (o.kind == 3) = false := by simpa using e3
                      have b4 : (o.kind == 4) = false := by simpa using e4
                      go_wp2
                      go_roundw
                      case rel => exact ⟨b, c, r, u, i + 1, by go_num, by omega, HZ.out⟩
                      case measure => simp only [intOf]; omega
          · have e : kk = 3 := by omega
            subst e
            clear hk3 hkk hk4
            by_cases e0 : o.kind = 0
            · have b0 : (o.kind == 0) = true := by simp [e0]
              go_wp2
              go_roundw
              case rel => exact ⟨b, c, r, u, i + 1, by go_num, by omega, HZ.out⟩
              case measure => simp only [intOf]; omega
            · by_cases e1 : o.kind = 1
              · have b0 : (o.kind == 0) = false := by simpa using e0
                have b1 : (o.kind == 1) = true := by simp [e1]
                have k0 := HZ.out.cm3
                have k1 := HZ.out.cr3
                have k2 := HB2.out
                go_wp2_with fail
                go_region_held3 (fun w' => w'.cell? ⟨M, 3, none⟩ = some (.pointer none) ∧ w'.cell? ⟨R, 3, none⟩ = some (.pointer none) ∧ w'.cell? ⟨Z, 2, none⟩ = some (.int .u64 (o.n : Int)))
                  (first | exact ⟨k0, k1, k2⟩ | exact ⟨l0, l1, l2⟩)
                  (first
                    | (go_at_call 32; refine (nil_spend o.n _).mono ?_; rintro e w' ⟨rfl, rfl⟩)
                    | (go_at_call 33; refine (nil_refSpend o.n _).mono ?_; rintro e v2 ⟨rfl, hh, ho, ht, hp⟩; have B2 : Below wz.heap.size wz v2 := ⟨ho, ht, hp, Nat.le_of_eq (congrArg Array.size hh).symm, fun k _ => congrArg (·[k]?) hh⟩; have l0 := (World.cell?_of_block (B2.block M HZ.out.ltM)).trans k0; have l1 := (World.cell?_of_block (B2.block R HZ.out.ltR)).trans k1; have l2 := (World.cell?_of_block (B2.block Z HZl.out)).trans k2))
                have HN := Lib.hid (HZ.out.up B2)
                clear B2 l0 l1 l2 k0 k1 k2 hh ho ht hp
                go_wp2
                go_roundw
                case rel => exact ⟨b, c, r, u, i + 1, by go_num, by omega, HN.out⟩
                case measure => simp only [intOf]; omega
              · by_cases e2 : o.kind = 2
                · have b0 : (o.kind == 0) = false := by simpa using e0
                  have b1 : (o.kind == 1) = false := by simpa using e1
                  have b2 : (o.kind == 2) = true := by simp [e2]
                  have k0 := HZ.out.cm3
                  have k1 := HZ.out.cr3
                  have k2 := HB2.out
                  go_wp2_with fail
                  go_region_held3 (fun w' => w'.cell? ⟨M, 3, none⟩ = some (.pointer none) ∧ w'.cell? ⟨Z, 2, none⟩ = some (.int .u64 (o.n : Int)))
                    (first | exact ⟨k0, k2⟩)
                    ((go_at_call 34; refine (nil_refund o.n _).mono ?_; rintro e w' ⟨rfl, rfl⟩))
                  go_wp2_with fail
                  go_region_held3 (fun w' => w'.cell? ⟨R, 3, none⟩ = some (.pointer none) ∧ w'.cell? ⟨Z, 2, none⟩ = some (.int .u64 (o.n : Int)))
                    (first | exact ⟨k1, k2⟩)
                    ((go_at_call 35; refine (nil_refRefund o.n _).mono ?_; rintro e w' ⟨rfl, rfl⟩))
                  clear k0 k1 k2
                  go_wp2
                  go_roundw
                  case rel => exact ⟨b, c, r, u, i + 1, by go_num, by omega, by exact HZ.out.up ⟨rfl, rfl, rfl, Nat.le_refl _, fun _ _ => rfl⟩⟩
                  case measure => simp only [intOf]; omega
                · by_cases e3 : o.kind = 3
                  · have b0 : (o.kind == 0) = false := by simpa using e0
                    have b1 : (o.kind == 1) = false := by simpa using e1
                    have b2 : (o.kind == 2) = false := by simpa using e2
                    have b3 : (o.kind == 3) = true := by simp [e3]
                    have k0 := HZ.out.cm3
                    have k1 := HZ.out.cr3
                    have k2 := HB2.out
                    go_wp2_with fail
                    go_region_held3 (fun w' => w'.cell? ⟨M, 3, none⟩ = some (.pointer none) ∧ w'.cell? ⟨R, 3, none⟩ = some (.pointer none))
                      (first | exact ⟨k0, k1⟩)
                      (first
                        | (go_at_call 36; refine (nil_used _).mono ?_; rintro e w' ⟨rfl, rfl⟩)
                        | (go_at_call 37; refine (nil_refUsed _).mono ?_; rintro e w' ⟨rfl, rfl⟩))
                    clear k0 k1 k2
                    go_wp2
                    go_roundw
                    case rel => exact ⟨b, c, r, u, i + 1, by go_num, by omega, by exact HZ.out.up ⟨rfl, rfl, rfl, Nat.le_refl _, fun _ _ => rfl⟩⟩
                    case measure => simp only [intOf]; omega
                  · by_cases e4 : o.kind = 4
                    · have b0 : (o.kind == 0) = false := by simpa using e0
                      have b1 : (o.kind == 1) = false := by simpa using e1
                      have b2 : (o.kind == 2) = false := by simpa using e2
                      have b3 : (o.kind == 3) = false := by simpa using e3
                      have b4 : (o.kind == 4) = true := by simp [e4]
                      have k0 := HZ.out.cm3
                      have k1 := HZ.out.cr3
                      have k2 := HB2.out
                      go_wp2_with fail
                      go_region_held3 (fun w' => w'.cell? ⟨M, 3, none⟩ = some (.pointer none) ∧ w'.cell? ⟨R, 3, none⟩ = some (.pointer none))
                        (first | exact ⟨k0, k1⟩)
                        (first
                          | (go_at_call 38; refine (nil_left _).mono ?_; rintro e w' ⟨rfl, rfl⟩)
                          | (go_at_call 39; refine (nil_refLeft _).mono ?_; rintro e w' ⟨rfl, rfl⟩))
                      clear k0 k1 k2
                      go_wp2
                      go_roundw
                      case rel => exact ⟨b, c, r, u, i + 1, by go_num, by omega, by exact HZ.out.up ⟨rfl, rfl, rfl, Nat.le_refl _, fun _ _ => rfl⟩⟩
                      case measure => simp only [intOf]; omega
                    · have b0 : (o.kind == 0) = false := by simpa using e0
                      have b1 : (o.kind == 1) = false := by simpa using e1
                      have b2 : (o.kind == 2) = false := by simpa using e2
                      have b3 : (o.kind == 3) = false := by simpa using e3
                      have b4 : (o.kind == 4) = false := by simpa using e4
                      go_wp2
                      go_roundw
                      case rel => exact ⟨b, c, r, u, i + 1, by go_num, by omega, HZ.out⟩
                      case measure => simp only [intOf]; omega
        · have e : i = l.length := by omega
          clear e
          go_wp2_with fail
          refine (new_any 1 wr).mono ?_
          rintro e w2 ⟨rfl, hm, hb1, hs1⟩
          have N1 := Lib.hid (HS.out.below.trans (hb1.mono HS.out.below.size))
          have hws := HS.out.below.size
          clear hb1 hs1
          go_wp2_with fail
          refine (left_any wr.heap.size 1 0 (by omega) w2 hm).mono ?_
          rintro e w3 ⟨rfl, hm3, ha3⟩
          have N3 := Lib.hid (ha3.below N1.out hws)
          clear ha3 hm
          go_wp2_with fail
          refine (spend_yes wr.heap.size 1 0 1 (by omega) (Nat.le_refl _) w3 hm3).mono ?_
          rintro e w4 ⟨rfl, hm4, ha4⟩
          have N4 := Lib.hid (ha4.below N3.out hws)
          clear ha4 hm4 hm3
          go_wp2
          go_ret
          exact ⟨rfl, N4.out⟩

end Go.Proofs.Ytfhmcgpohpkjgaa
